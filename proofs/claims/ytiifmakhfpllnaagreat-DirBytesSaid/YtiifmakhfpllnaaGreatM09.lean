/-
  Rows of bytes, and texts, as lists of bytes; a number's bytes.
-/
import Derived.Test.YtiifmakhfpllnaaGreatM03
import Derived.Test.YtiifmakhfpllnaaGreatM00
import Derived.Test.YtiifmakhfpllnaaGreatProg
import Derived.Laws.BytesArg
import Derived.Laws.IdiomStrings
namespace Go.Proofs.YtiifmakhfpllnaaGreat
open Go.RowKit

/-- a byte's cell -/
abbrev byC (b : UInt8) : List Value := [.int .u8 (b.toNat : Int)]
abbrev SlY := SlF byC
/-- a text -/
def strL (l : List UInt8) : Value := .string ⟨l.toArray⟩
theorem by_one {b : UInt8} : ∀ u ∈ byC b, u.oneCell' = true := by
  intro u hu
  simp at hu
  subst hu
  rfl
theorem flatY_length (l : List UInt8) : (l.flatMap byC).length = l.length := by induction l <;> simp_all
theorem SlY.at {w : World} {a : Option Addr} {cap n : Nat} {l : List UInt8} (h : SlY w (.slice a n cap) l) {i : Nat} (hi : i < l.length) : ∃ b off, a = some ⟨b, off, none⟩ ∧ b < w.heap.size ∧
    w.cell? ⟨b, off + i, none⟩ = some (.int .u8 ((l.getD i 0).toNat : Int)) := by
  obtain ⟨a', cap', hv, _, _, hc⟩ := h.open
  cases hv
  obtain ⟨b, off, rfl, hb, hc⟩ := hc 1 (fun _ => rfl) (by omega) i _ (getD_some 0 hi)
  have := hc 0 _ rfl
  rw [Nat.mul_one, Nat.add_zero] at this
  exact ⟨b, off, rfl, hb, this⟩
theorem infoY : (Tryz.prog.info? 5).map (fun i => (i.zero, i.size, i.bytes)) = some (some (.int .u8 0), 1, 1) := by kernel_rfl
/-- 'out = append(out, l...)', out the call's own slice; where it lies behind it -/
theorem wpList_append_slL {P : Program} (T E : TypeId) (z : Value) (size bytes : Nat) (ht : P.underlying T = some (.slice E)) (hinfo : (P.info? E).map (fun i => (i.zero, i.size, i.bytes)) = some (some z, size, bytes))
    (hzs : z.cells.size = size) (hsz : 0 < size) (hby : bytes ≤ 4096) {ops : Array Oper} {rest : List Oper} {o : Oper} {a : Act} {Q : Exit → Act → World → Prop} {w : World} (hgd : o.guard = none) (s x : Operand)
    (ho : o.op = .call { callee := .builtin .append, args := #[s, x], argTypes := #[T, T] }) (base : Nat) (v : Value) (n : Nat) (xs : List Value) (hs : a.eval s = v) (hown : w.ownsRow base E size v n xs)
    (u : Value) (m : Nat) (news : List Value) (hu : Sl w u m news) (hok : okV u) (hl : news.length = m * size) (h1 : ∀ y ∈ news, y.oneCell' = true) (hx : a.eval x = u) (hn : n ≤ 4294967296) (hm : m ≤ 4294967296) (hbase : base ≤ w.heap.size)
    (h : ∀ v' w', w'.ownsRow base E size v' (n + m) (xs ++ news) → w.grownBy w' v.ownBlock → (v'.ownBlock = v.ownBlock ∨ v'.ownBlock = some w.heap.size) → wpList P ops Q rest (a.put o.dst v') w') : wpList P ops Q (o :: rest) a w := by
  obtain ⟨i0, hi, hz0, hz1, hz2⟩ := info_parts hinfo
  obtain ⟨ad, cap, rfl, hmc, hcm, hc⟩ := hu
  cases ad with
  | none =>
    have hcap := hok _ _ rfl
    subst hcap
    have hm0 : m = 0 := by omega
    subst hm0
    have hnews : news = [] := List.eq_nil_of_length_eq_zero (by rw [hl, Nat.zero_mul])
    subst hnews
    refine wpList_append_own_none hgd s x T ho base E i0 size ht hi v n xs hs hown hx (h v w (by rw [List.append_nil]; exact hown) ⟨rfl, rfl, rfl, Nat.le_refl _, fun _ _ _ => rfl⟩ (.inl rfl))
  | some ad =>
    refine wpList_append_own_at w hgd s x T ho base E i0 z size bytes ht hi hz0 hz1 hz2 hzs hsz v n xs hs hown ad m cap news hx hl (fun j y hy => ?_) h1 (by unfold maxLen; omega) ?_ hbase (fun v' w' g1 g2 _ g4 => h v' w' g1 g2 g4)
    · rcases hc with he | ⟨b, off, hab, hb, hc⟩
      · rw [he] at hy; cases hy
      · cases hab
        have hadd : (⟨b, off, none⟩ : Addr).add j = ⟨b, off + j, none⟩ := by unfold Addr.add; split <;> simp_all
        rw [hadd]
        exact hc j y hy
    · have : (n + m) * bytes ≤ 8589934592 * 4096 := Nat.mul_le_mul (by omega) hby
      omega
/-! ### a number's bytes -/
/-- the W last bytes of a number, the greatest first -/
def numL : Nat → Nat → List UInt8
  | 0, _ => []
  | W + 1, n => numL W (n / 256) ++ [UInt8.ofNat n]
theorem numL_length : ∀ (W n : Nat), (numL W n).length = W
  | 0, _ => rfl
  | W + 1, n => by simp [numL, numL_length W]
theorem numL_getD : ∀ (W n i : Nat), i < W → (numL W n).getD i 0 = UInt8.ofNat (n / 256 ^ (W - 1 - i))
  | W + 1, n, i, h => by
    unfold numL
    rw [List.getD_eq_getElem?_getD]
    by_cases hi : i < W
    · rw [List.getElem?_append_left (by rw [numL_length]; exact hi), ← List.getD_eq_getElem?_getD, numL_getD W (n / 256) i hi, Nat.div_div_eq_div_mul]
      congr 2
      rw [show W + 1 - 1 - i = (W - 1 - i) + 1 by omega, Nat.pow_succ, Nat.mul_comm]
    · have : i = W := by omega
      subst this
      rw [List.getElem?_append_right (by rw [numL_length]; exact Nat.le_refl _), numL_length, Nat.sub_self]
      simp
theorem numL_take {W n i : Nat} (h : i < W) : (numL W n).take (i + 1) = (numL W n).take i ++ [UInt8.ofNat (n / 256 ^ (W - 1 - i))] := by
  have hl : i < (numL W n).length := by rw [numL_length]; exact h
  have hg : (numL W n)[i] = (numL W n).getD i 0 := by rw [List.getD_eq_getElem?_getD, List.getElem?_eq_getElem hl]; rfl
  rw [List.take_succ_eq_append_getElem hl, hg, numL_getD W n i h]
/-- the number of bytes -/
def valL (l : List UInt8) : Nat := l.foldl (fun n b => n * 256 + b.toNat) 0
theorem valL_snoc (l : List UInt8) (b : UInt8) : valL (l ++ [b]) = valL l * 256 + b.toNat := by simp [valL]
theorem ofNat_toNat (n : Nat) : (UInt8.ofNat n).toNat = n % 256 := by simp
theorem valL_numL : ∀ (W n : Nat), valL (numL W n) = n % 256 ^ W
  | 0, n => by simp [numL, valL, Nat.mod_one]
  | W + 1, n => by
    unfold numL
    rw [valL_snoc, valL_numL W, ofNat_toNat, Nat.pow_succ]
    have h1 := Nat.div_add_mod n 256
    have h2 : n % (256 ^ W * 256) = n / 256 % 256 ^ W * 256 + n % 256 := by
      rw [Nat.mul_comm (256 ^ W) 256, Nat.mod_mul]
      omega
    omega
theorem snoc_ind {α : Type} {p : List α → Prop} (h0 : p []) (h1 : ∀ l b, p l → p (l ++ [b])) : ∀ l, p l := by
  intro l
  rw [← List.reverse_reverse l]
  generalize l.reverse = r
  induction r with
  | nil => exact h0
  | cons b r ih => rw [List.reverse_cons]; exact h1 _ _ ih
theorem valL_lt : ∀ (l : List UInt8), valL l < 256 ^ l.length := by
  refine snoc_ind (by simp [valL]) fun l b ih => ?_
  · rw [valL_snoc, List.length_append, List.length_singleton, Nat.pow_succ]
    have := b.toNat_lt
    omega
theorem numL_valL : ∀ (l : List UInt8), numL l.length (valL l) = l := by
  refine snoc_ind rfl fun l b ih => ?_
  · rw [List.length_append, List.length_singleton]
    unfold numL
    rw [valL_snoc]
    have hb := b.toNat_lt
    rw [show (valL l * 256 + b.toNat) / 256 = valL l by omega, ih]
    congr 2
    apply UInt8.toNat_inj.1
    rw [ofNat_toNat]
    omega
theorem numL_inj {W n m : Nat} (h : numL W n = numL W m) (hn : n < 256 ^ W) (hm : m < 256 ^ W) : n = m := by
  have := congrArg valL h
  rwa [valL_numL, valL_numL, Nat.mod_eq_of_lt hn, Nat.mod_eq_of_lt hm] at this
/-! ### from bytes to texts -/
theorem conv_str {w : World} {v : Value} {l : List UInt8} (h : SlY w v l) : (convert 23 9 v).run Tryz.prog w = .ok (strL l) w := by
  obtain ⟨a, cap, rfl, h1, h2, hc⟩ := h.open
  cases a with
  | none =>
    have hl : l = [] := by
      cases l with
      | nil => rfl
      | cons x l =>
        obtain ⟨b, off, he, _⟩ := hc 1 (fun _ => rfl) (by omega) 0 x rfl
        cases he
    subst hl
    exact run_convert_bytes_nil (P := Tryz.prog) w _ _ Tryz.underlying23 Tryz.underlying5 _ _ _ Tryz.underlying9
  | some a =>
    refine run_convert_bytes_back (P := Tryz.prog) w _ _ _ a cap l Tryz.underlying23 Tryz.underlying5 Tryz.underlying9 fun j hj => ?_
    obtain ⟨b, off, he, _, hc2⟩ := hc 1 (fun _ => rfl) (by omega) j l[j] (List.getElem?_eq_getElem hj)
    cases he
    have hadd : (⟨b, off, none⟩ : Addr).add j = ⟨b, off + j, none⟩ := by unfold Addr.add; split <;> simp_all
    have := hc2 0 _ rfl
    rw [hadd, ← this, Nat.mul_one, Nat.add_zero]
theorem str_eq (a : ByteArray) : Value.string a = strL a.data.toList := by
  unfold strL
  congr 1
theorem strL_inj {l l' : List UInt8} (h : strL l = strL l') : l = l' := by
  unfold strL at h
  have := congrArg (fun v => match v with | .string a => a.data.toList | _ => []) h
  simpa using this
end Go.Proofs.YtiifmakhfpllnaaGreat

namespace Go.Proofs.YtiifmakhfpllnaaGreat
open Go.RowKit Go.Maps
structure OpD where
  k : Int
  name : List UInt8
  other : List UInt8
  sec : Int
  gr : Int
  fr : Int
  lo : Int
  on : Bool
def opdC (o : OpD) : List Value := [.int .i64 o.k, strL o.name, strL o.other, .int .i64 o.sec, .int .i64 o.gr, .int .i64 o.fr, .int .i64 o.lo, .bool o.on]
def opdV (o : OpD) : Value := .agg (opdC o).toArray
abbrev in64 (n : Int) : Prop := -9223372036854775808 ≤ n ∧ n ≤ 9223372036854775807
def wfD (o : OpD) : Prop := in64 o.k ∧ in64 o.sec ∧ in64 o.gr ∧ in64 o.fr ∧ in64 o.lo ∧ o.name.length ≤ maxLen ∧ o.other.length ≤ maxLen
def zOD : OpD := ⟨0, [], [], 0, 0, 0, 0, false⟩
abbrev SlOD (w : World) (v : Value) (l : List OpD) : Prop := SlF opdC w v l
end Go.Proofs.YtiifmakhfpllnaaGreat

namespace Go.Proofs.YtiifmakhfpllnaaGreat
open Go.RowKit Go.Maps

theorem oRight_calls (k : Int) (hk : k = 1 ∨ k = 2 ∨ k = 4) (w : World) : Calls Tryz.prog 65 #[.int .i64 k] w fun e w' => e = .returned (.bool true) ∧ w = w' := by
  rcases hk with rfl | rfl | rfl
  all_goals
    go_enter Tryz.func65, Tryz.ntmps65
    go_wp2
    go_ret
    exact ⟨rfl, rfl⟩
theorem oFits_calls (W n : Nat) (hk : W = 1 ∨ W = 2 ∨ W = 4) (hn : n < 256 ^ W) (w : World) : Calls Tryz.prog 84 #[.int .i64 (n : Int), .int .i64 (W : Int)] w fun e w' => e = .returned (.bool true) ∧ w = w' := by
  have h1 : (0 : Int) ≤ (n : Int) := by omega
  rcases hk with rfl | rfl | rfl
  · have h2 : n < 256 := hn
    have h3 : (n : Int) < 256 := by omega
    clear hn h2
    go_enter Tryz.func84, Tryz.ntmps84
    go_wp2
    go_ret
    exact ⟨rfl, rfl⟩
  · have h2 : n < 65536 := hn
    have h3 : (n : Int) < 65536 := by omega
    clear hn h2
    go_enter Tryz.func84, Tryz.ntmps84
    go_wp2
    go_ret
    exact ⟨rfl, rfl⟩
  · have h2 : n < 4294967296 := hn
    have h3 : (n : Int) < 4294967296 := by omega
    clear hn h2
    go_enter Tryz.func84, Tryz.ntmps84
    go_wp2
    go_ret
    exact ⟨rfl, rfl⟩
theorem byte_form (n m : Nat) : (n : Int) / 2 ^ (8 * m) % 256 = ((UInt8.ofNat (n / 256 ^ m)).toNat : Int) := by
  rw [ofNat_toNat, show (256 : Nat) ^ m = 2 ^ (8 * m) by rw [Nat.pow_mul]]
  simp
theorem take_map_flat {ns : List Nat} {W k : Nat} (h : k < ns.length) : (ns.take (k + 1)).flatMap (numL W) = (ns.take k).flatMap (numL W) ++ numL W (ns.getD k 0) := by
  have hg : ns[k] = ns.getD k 0 := by rw [List.getD_eq_getElem?_getD, List.getElem?_eq_getElem h]; rfl
  rw [List.take_succ_eq_append_getElem h, hg, List.flatMap_append]
  simp
theorem flat_num_len (W : Nat) : ∀ ns : List Nat, (ns.flatMap (numL W)).length = ns.length * W
  | [] => by simp
  | n :: ns => by rw [List.flatMap_cons, List.length_append, numL_length, flat_num_len W ns, List.length_cons, Nat.add_mul]; omega
set_option maxRecDepth 100000 in
set_option maxHeartbeats 1600000 in
theorem Put_calls (W : Nat) (hW : W = 1 ∨ W = 2 ∨ W = 4) (ns : List Nat) (hns : ∀ n ∈ ns, n < 256 ^ W) (base : Nat) (v : Value) (bs : List UInt8) (lb : Nat) (c : Nat) (w : World)
    (hown : w.ownsRow base 5 1 v bs.length (bs.flatMap byC)) (hm : bs.length + ns.length * 4 ≤ 10000000) (hb : base ≤ w.heap.size) (B : Blk w lb (ns.map fun (n : Nat) => Value.int .i64 (n : Int)) 3) (hlb : ∀ k, v.ownBlock = some k → lb ≠ k) :
    Calls Tryz.prog 48 #[v, .int .i64 (W : Int), .slice (some ⟨lb, 0, none⟩) ns.length c] w
      fun e w' => ∃ v', e = .returned (.tuple #[v', .bool true]) ∧ w'.ownsRow base 5 1 v' (bs ++ ns.flatMap (numL W)).length ((bs ++ ns.flatMap (numL W)).flatMap byC) ∧ Fr v.ownBlock.toList w w' ∧ ∀ x, v'.ownBlock = some x → v.ownBlock = some x ∨ w.heap.size ≤ x := by
  have hat : ∀ k, k < ns.length → (ns.map fun (n : Nat) => Value.int .i64 (n : Int))[k]? = some (.int .i64 ((ns.getD k 0 : Nat) : Int)) := fun k hk => by
    rw [List.getElem?_map, getD_some 0 hk]; rfl
  have hfit : ∀ k, k < ns.length → ns.getD k 0 < 256 ^ W := fun k hk => hns _ (by rw [List.getD_eq_getElem?_getD, List.getElem?_eq_getElem hk]; exact List.getElem_mem _)
  have hW4 : W ≤ 4 := by omega
  have lbt := B.lt
  have keyF := fun n h w => oFits_calls W n hW h w
  have keyR := fun w => oRight_calls (W : Int) (by omega) w
  go_enter Tryz.func48, Tryz.ntmps48
  go_wp2_with fail
  refine (keyR _).mono ?_
  rintro e w1 ⟨rfl, rfl⟩
  go_wp2_with fail
  go_loopw [19] (fun i wr => ∃ k : Nat, k ≤ ns.length ∧ i = .int .i64 k ∧ w = wr) (fun i _ => ns.length - (intOf i).toNat)
  case atStart => exact ⟨0, Nat.zero_le _, rfl, rfl⟩
  case round =>
    obtain ⟨k, hk, rfl, rfl⟩ := hrel
    by_cases hlt : k < ns.length
    · have c1 := B.cell k
      rw [hat k hlt] at c1
      have hf := hfit k hlt
      generalize ns.getD k 0 = n at *
      go_wp2_with fail
      refine (keyF n hf _).mono ?_
      rintro e w1 ⟨rfl, rfl⟩
      go_wp2
      go_roundw
      case rel => exact ⟨k + 1, by omega, by go_num, trivial⟩
      case measure => simp [intOf]; omega
    · clear keyF keyR hfit
      go_wp2
      go_loopw [0, 31] (fun u i w2 => ∃ k : Nat, k ≤ ns.length ∧ i = .int .i64 k ∧ w2.ownsRow base 5 1 u (bs ++ (ns.take k).flatMap (numL W)).length ((bs ++ (ns.take k).flatMap (numL W)).flatMap byC) ∧ (∀ x, u.ownBlock = some x → v.ownBlock = some x ∨ w.heap.size ≤ x) ∧ Fr v.ownBlock.toList w w2) (fun _ i _ => ns.length - (intOf i).toNat)
      case atStart => exact ⟨0, Nat.zero_le _, rfl, by simpa using hown, fun x hx => .inl hx, Fr.refl _ _⟩
      case round =>
        obtain ⟨k, hk, rfl, hown1, hob1, hF1⟩ := hrel
        by_cases hlt : k < ns.length
        · have B1 := B.fr hF1 (by intro hx; cases hv : v.ownBlock with | none => simp [hv] at hx | some x => simp [hv] at hx; exact hlb x hv hx)
          have c1 := B1.cell k
          rw [hat k hlt] at c1
          have l1 := B1.lt
          have Hst := hidIt (take_map_flat (W := W) hlt)
          have hlen := flat_num_len W (ns.take k)
          generalize ns.getD k 0 = n at *
          go_wp2
          go_loopw [0, 36] (fun u i w2 => ∃ j : Nat, j ≤ W ∧ i = .int .i64 j ∧ w2.ownsRow base 5 1 u (bs ++ (ns.take k).flatMap (numL W) ++ (numL W n).take j).length ((bs ++ (ns.take k).flatMap (numL W) ++ (numL W n).take j).flatMap byC) ∧ (∀ x, u.ownBlock = some x → v.ownBlock = some x ∨ w.heap.size ≤ x) ∧ Fr v.ownBlock.toList w w2) (fun _ i _ => W - (intOf i).toNat)
          case atStart => exact ⟨0, Nat.zero_le _, rfl, by simpa using hown1, hob1, hF1⟩
          case round =>
            clear hown1 hob1 hF1 B1 c1 l1
            obtain ⟨j, hj, rfl, hown2, hob2, hF2⟩ := hrel
            by_cases hjl : j < W
            · have Hb := hidIt (byte_form n (W - 1 - j))
              have Ht := hidIt (numL_take (n := n) hjl)
              have hsz := hF2.size
              have hnl := numL_length W n
              have hjt : ((numL W n).take j).length = j := by simp [hnl]; omega
              have Hlt : (bs ++ (ns.take k).flatMap (numL W) ++ (numL W n).take j).length ≤ 4294967296 := by
                have : (ns.take k).length = k := by simp; omega
                rw [this] at hlen
                have : k * W ≤ k * 4 := Nat.mul_le_mul_left _ hW4
                simp only [List.length_append, hlen, hjt]
                omega
              generalize ((ns.take k).flatMap (numL W)) = pre at *
              go_wp2_with (at_builtin; refine Hid.out ?_)
              refine hidIt ?_
              refine wpList_append1 23 5 (.int .u8 0) 1 1 Tryz.underlying23 infoY rfl (by decide) (by decide) rfl _ _ rfl base _ _ _ rfl (hown2.alloc _) [_] rfl (by intro u hu; simp at hu; subst hu; rfl) wr.heap.size rfl (Blk.new _ _ _) Hlt (by simp; omega) ?_
              intro v2 w2 hown3 hgrow3 hloc3
              rw [Hb.out] at hown3
              have e1 : (bs ++ pre ++ (numL W n).take (j + 1)).flatMap byC = (bs ++ pre ++ (numL W n).take j).flatMap byC ++ [Value.int .u8 ((UInt8.ofNat (n / 256 ^ (W - 1 - j))).toNat : Int)] := by rw [Ht.out]; simp
              have e2 : (bs ++ pre ++ (numL W n).take (j + 1)).length = (bs ++ pre ++ (numL W n).take j).length + 1 := by rw [Ht.out]; simp; omega
              have hF3 : Fr v.ownBlock.toList w w2 := (hF2.alloc _).grown hgrow3 (fun x hx => by
                rcases hob2 x hx with h | h
                · exact .inl (by simp [h])
                · exact .inr h)
              have hob3 : ∀ x, v2.ownBlock = some x → v.ownBlock = some x ∨ w.heap.size ≤ x := fun x hx => by
                rcases hloc3 with h | h
                · rw [h] at hx; exact hob2 x hx
                · rw [h] at hx; cases hx; right; simp; omega
              clear hown2 Hb Ht
              go_wp2
              go_roundw
              case rel => exact ⟨j + 1, by omega, by go_num, by rw [e1, e2]; exact hown3, hob3, hF3⟩
              case measure => simp [intOf]; omega
            · have hje : j = W := by omega
              subst hje
              have hnl := numL_length j n
              rw [show (numL j n).take j = numL j n from List.take_of_length_le (by omega)] at hown2
              go_wp2
              go_roundw
              case rel => exact ⟨k + 1, by omega, by go_num, by rw [Hst.out, ← List.append_assoc]; exact hown2, hob2, hF2⟩
              case measure => simp [intOf]; omega
        · have hke : k = ns.length := by omega
          subst hke
          rw [List.take_length] at hown1
          go_wp2
          go_ret2
          exact ⟨_, rfl, hown1, hF1, hob1⟩
end Go.Proofs.YtiifmakhfpllnaaGreat
