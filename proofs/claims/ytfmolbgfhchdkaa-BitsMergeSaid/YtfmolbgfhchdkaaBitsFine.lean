/-
  law10.BitsFine: the walk.
-/
import Derived.Test.YtfmolbgfhchdkaaBitsAllClear
namespace Go.Proofs.Ytfmolbgfhchdkaa
open Go.RowKit Go.Maps

/-- 'out = append(out, x)', however long out is, as long as its bytes are memory's -/
theorem wpList_append1L {P : Program} (T E : TypeId) (z : Value) (size bytes : Nat) (ht : P.underlying T = some (.slice E)) (hinfo : (P.info? E).map (fun i => (i.zero, i.size, i.bytes)) = some (some z, size, bytes))
    (hzs : z.cells.size = size) (hsz : 0 < size) {ops : Array Oper} {rest : List Oper} {o : Oper} {a : Act} {Q : Exit → Act → World → Prop} {w : World} (hgd : o.guard = none) (s x : Operand)
    (ho : o.op = .call { callee := .builtin .append, args := #[s, x], argTypes := #[T, T] }) (base : Nat) (v : Value) (n : Nat) (xs : List Value) (hs : a.eval s = v) (hown : w.ownsRow base E size v n xs)
    (cs : List Value) (hcs : cs.length = size) (h1 : ∀ u ∈ cs, u.oneCell' = true) (nb : Nat) (hx : a.eval x = .slice (some ⟨nb, 0, none⟩) 1 1) {tb : TypeId} (hB : Blk w nb cs tb) (hn : (n + 1) * bytes ≤ 140737488355328) (hn1 : n + 1 ≤ maxLen) (hbase : base ≤ w.heap.size)
    (h : ∀ v' w', w'.ownsRow base E size v' (n + 1) (xs ++ cs) → w.grownBy w' v.ownBlock → wpList P ops Q rest (a.put o.dst v') w') : wpList P ops Q (o :: rest) a w := by
  obtain ⟨i0, hi, hz0, hz1, hz2⟩ := info_parts hinfo
  refine wpList_append_own_at w hgd s x T ho base E i0 z size bytes ht hi hz0 hz1 hz2 hzs hsz v n xs hs hown ⟨nb, 0, none⟩ 1 1 cs hx (by omega) (fun j u hu => ?_) h1 hn1 hn hbase (fun v' w' g1 g2 _ _ => h v' w' g1 g2)
  have hadd : (⟨nb, 0, none⟩ : Addr).add j = ⟨nb, j, none⟩ := by unfold Addr.add; split <;> simp_all
  rw [hadd, hB.cell j]
  exact hu
theorem infoOp3 : (Try.prog.info? 24).map (fun i => (i.zero, i.size, i.bytes)) = some (some (.agg #[.int .i64 0, .int .i64 0, .int .i64 0]), 3, 24) := by kernel_rfl
theorem op3_one {o : Op3} : ∀ u ∈ op3C o, u.oneCell' = true := by
  intro u hu
  simp at hu
  rcases hu with rfl | rfl | rfl <;> rfl
/-! ### the plain law -/
def setsOf (l : List Op3) : List Op3 := l.filter fun o => decide (o.1 = 0)
theorem setsOf_succ (l : List Op3) (k : Nat) (hk : k < l.length) : setsOf (l.take (k + 1)) = setsOf (l.take k) ++ if (l.getD k z3).1 = 0 then [l.getD k z3] else [] := by
  have hg : l[k] = l.getD k z3 := by rw [List.getD_eq_getElem?_getD, List.getElem?_eq_getElem hk]; rfl
  unfold setsOf
  rw [List.take_succ_eq_append_getElem hk, hg, List.filter_append]
  congr 1
  generalize l.getD k z3 = o
  by_cases h : o.1 = 0
  · rw [if_pos h, List.filter_cons, if_pos (by simpa using h), List.filter_nil]
  · rw [if_neg h, List.filter_cons, if_neg (by simpa using h), List.filter_nil]
theorem setsOf_len (l : List Op3) (k : Nat) : (setsOf (l.take k)).length ≤ k := by
  unfold setsOf
  refine Nat.le_trans (List.length_filter_le _ _) ?_
  simp; omega
theorem pow2_dvd {a b : Nat} (ha : pow2 a = true) (hb : pow2 b = true) (h : a ≤ b) : ∃ c, b = a * c := by
  have hd : a ∣ b := by
    simp [pow2] at ha hb
    have ha' : a = 1 ∨ a = 2 ∨ a = 4 ∨ a = 8 ∨ a = 16 ∨ a = 32 ∨ a = 64 := by omega
    have hb' : b = 1 ∨ b = 2 ∨ b = 4 ∨ b = 8 ∨ b = 16 ∨ b = 32 ∨ b = 64 := by omega
    rcases ha' with rfl | rfl | rfl | rfl | rfl | rfl | rfl <;> rcases hb' with rfl | rfl | rfl | rfl | rfl | rfl | rfl <;> first | decide | omega
  obtain ⟨c, rfl⟩ := hd
  exact ⟨c, rfl⟩
theorem one_wider {S a b f n s : Nat} (ha : 0 < a) (hab : ∃ c, b = a * c) (hb : 0 < b) (_ : s < S) (h : oneB S a f n (s / a) = true) : oneB S b f n (s / b) = true := by
  obtain ⟨c, rfl⟩ := hab
  have hc : 0 < c := Nat.pos_of_ne_zero (by rintro rfl; simp at hb)
  have e : s / (a * c) = s / a / c := (Nat.div_div_eq_div_mul s a c).symm
  have h1 := Nat.div_mul_le_self (s / a) c
  have h2 : s / a < s / a / c * c + c := (div_le (X := s / a) (g := c) (k := s / a / c) hc).1 (Nat.le_refl _)
  rw [e]
  generalize s / a / c = q at *
  generalize s / a = k at *
  have m1 : q * (a * c) ≤ k * a := by
    have := Nat.mul_le_mul_right a h1
    rw [Nat.mul_comm a c, ← Nat.mul_assoc]; exact this
  have m2 : k * a + a ≤ q * (a * c) + a * c := by
    have := Nat.mul_le_mul_right a (show k + 1 ≤ q * c + c by omega)
    rw [Nat.add_mul, Nat.add_mul, Nat.one_mul] at this
    rw [Nat.mul_comm a c, ← Nat.mul_assoc]; exact this
  simp only [oneB, decide_eq_true_eq] at h ⊢
  omega
/-- every sector that is dirty here is so there -/
def fineB (a b : Nat) (l l' : List Bool) : Prop := ∀ s, s < 40 → l.getD (s / a) false = true → l'.getD (s / b) false = true
theorem fine_run {a b : Nat} (ha : 0 < a) (hb : 0 < b) (hab : ∃ c, b = a * c) : ∀ (ops : List Op3) (la lb : List Bool), (∀ o ∈ ops, o.1 = 0) → la.length = gran 40 a → lb.length = gran 40 b → fineB a b la lb →
    (runS a (40, la) ops).1 = 40 ∧ (runS b (40, lb) ops).1 = 40 ∧ fineB a b (runS a (40, la) ops).2 (runS b (40, lb) ops).2
  | [], _, _, _, _, _, h => ⟨rfl, rfl, h⟩
  | o :: ops, la, lb, ho, h1, h2, h => by
    have hk : o.1 = 0 := ho o (by simp)
    have hos : ∀ x ∈ ops, x.1 = 0 := fun x hx => ho x (by simp [hx])
    have ea : runS a (40, la) (o :: ops) = runS a (doS a (40, la) o).1 ops := rfl
    have eb : runS b (40, lb) (o :: ops) = runS b (doS b (40, lb) o).1 ops := rfl
    rw [ea, eb]
    by_cases hin : insideB 40 o.2.1 o.2.2
    · have da : (doS a (40, la) o).1 = (40, bSet 40 a la o.2.1.toNat o.2.2.toNat) := by simp [doS, hk, hin]
      have db : (doS b (40, lb) o).1 = (40, bSet 40 b lb o.2.1.toNat o.2.2.toNat) := by simp [doS, hk, hin]
      rw [da, db]
      refine fine_run ha hb hab ops _ _ hos (by simp [bSet]; exact h1) (by simp [bSet]; exact h2) fun s hs hd => ?_
      have k1 : s / a < la.length := by rw [h1]; exact gran_at ha hs
      have k2 : s / b < lb.length := by rw [h2]; exact gran_at hb hs
      rw [bSet_getD k1] at hd
      rw [bSet_getD k2]
      rcases Bool.or_eq_true _ _ |>.mp hd with hd | hd
      · rw [one_wider ha hab hb hs hd]; rfl
      · rw [h s hs hd]; simp
    · have da : (doS a (40, la) o).1 = (40, la) := by simp [doS, hk, hin]
      have db : (doS b (40, lb) o).1 = (40, lb) := by simp [doS, hk, hin]
      rw [da, db]
      exact fine_run ha hb hab ops _ _ hos h1 h2 h
theorem fine_all {a b : Nat} (ha : pow2 a = true) (hb : pow2 b = true) (hab : a ≤ b) (ops : List Op3) (ho : ∀ o ∈ ops, o.1 = 0) :
    (stOf 40 a ops).1 = 40 ∧ (stOf 40 b ops).1 = 40 ∧ fineB a b (stOf 40 a ops).2 (stOf 40 b ops).2 := by
  have ga := pow2_le ha
  have gb := pow2_le hb
  have := fine_run (by omega) (by omega) (pow2_dvd ha hb hab) ops (List.replicate (gran 40 a) false) (List.replicate (gran 40 b) false) ho (by simp) (by simp) (fun s _ h => by
    rw [List.getD_eq_getElem?_getD, List.getElem?_replicate] at h
    split at h <;> simp at h)
  unfold stOf
  simpa using this
/-- made, whichever way -/
theorem made_any (s g : Int) (v : Value) (l : List Op3) (w : World) (hv : SlP w v l) (hgood : ∀ o ∈ l, goodOp o) : Calls Try.prog 10 #[.int .i64 s, .int .i64 g, v] w
    fun e w' => ∃ ptr x y a n c, e = .returned (.tuple #[ptr, .agg #[.int .i64 x, .int .i64 y, .slice a n c], .bool (okMade s g l)]) ∧ Fr [] w w' ∧ (okMade s g l = true → ∃ tb mb, ptr = .pointer (some ⟨tb, 0, none⟩) ∧ BitW w' tb mb (stOf s g l).1 g.toNat (stOf s g l).2) := by
  by_cases h : okMade s g l = true
  · rw [h]
    have h1 : okNew s g = true := by simp [okMade] at h; exact h.1
    have h2 : fewS s l = true := by simp [okMade] at h; exact h.2
    refine (made_yes s g v l w h1 hv h2 hgood).mono ?_
    rintro e w' ⟨tb, mb, rv, rfl, hW, hR, _, _, hf⟩
    obtain ⟨x, y, a, n, c, rfl⟩ := hR.some
    exact ⟨_, x, y, a, n, c, rfl, hf, fun _ => ⟨tb, mb, rfl, hW⟩⟩
  · have h' : okMade s g l = false := by simpa using h
    rw [h']
    refine (made_no s g v l w hv h').mono ?_
    rintro e w' ⟨x, y, a, n, c, rfl, hf⟩
    exact ⟨_, x, y, a, n, c, rfl, hf, fun h => by cases h⟩
set_option maxRecDepth 100000 in
set_option maxHeartbeats 1600000 in
theorem BitsFine_walk (A B : Int) (v : Value) (l : List Op3) (w : World) (hv : SlP w v l) (hw : ∀ o ∈ l, wf3 o) (hsz : l.length * 24 ≤ 140737488351232) :
    Calls Try.prog 5 #[.agg #[.int .i64 A, .int .i64 B], v] w fun e w' => e = .returned (.bool true) ∧ Fr [] w w' := by
  obtain ⟨av, cv, rfl, hlc, hcm, _⟩ := hv.open
  unfold maxLen at hcm
  have B2 := Blk.new w [.int .i64 A, .int .i64 B] 40
  have hF2 := (Fr.refl [] w).alloc (.cells #[.int .i64 A, .int .i64 B] 40)
  have Hgood : Hid (∀ o ∈ setsOf l, goodOp o) := hidIt (fun o ho => good_of hw o (List.mem_filter.1 ho).1)
  have Hkind : Hid (∀ o ∈ setsOf l, o.1 = 0) := hidIt (fun o ho => by simpa using (List.mem_filter.1 ho).2)
  clear hw
  go_enter Try.func5, Try.ntmps5
  go_wp2_with fail
  go_loopw [5, 17] (fun v i wr => ∃ k : Nat, k ≤ l.length ∧ i = .int .i64 k ∧ wr.ownsRow (w.heap.size + 1) 24 3 v (setsOf (l.take k)).length ((setsOf (l.take k)).flatMap op3C) ∧ Blk wr w.heap.size [.int .i64 A, .int .i64 B] 40 ∧ Fr [] w wr) (fun _ i _ => l.length - (intOf i).toNat)
  case atStart => exact ⟨0, Nat.zero_le _, rfl, World.ownsRow_nil _ _ _ _, B2, hF2⟩
  case round =>
    clear B2 hF2
    obtain ⟨k, hk, rfl, hown, B2, hF⟩ := hrel
    have b2 := B2.cell
    have l2 := B2.lt
    by_cases hlt : k < l.length
    · obtain ⟨b, off, rfl, hb, c0, c1, c2⟩ := SlP.at (hv.fr0 hF) hlt
      have Hst := hidIt (setsOf_succ l k hlt)
      have hle := setsOf_len l k
      have hob := own_base hown
      generalize setsOf (l.take k) = M at *
      generalize l.getD k z3 = o at *
      obtain ⟨p, q, r⟩ := o
      simp only at c0 c1 c2 Hst
      have B7 := Blk.new wr [.int .i64 p, .int .i64 q, .int .i64 r] 24
      have b7 := B7.cell
      by_cases hp : p = 0
      · rw [if_pos hp] at Hst
        subst hp
        go_wp2_with (at_builtin; refine Hid.out ?_)
        refine hidIt ?_
        refine wpList_append1L 22 24 (.agg #[.int .i64 0, .int .i64 0, .int .i64 0]) 3 24 Try.underlying22 infoOp3 rfl (by decide) rfl _ _ rfl (w.heap.size + 1) _ M.length (M.flatMap op3C) rfl ((hown.alloc _).alloc _) (op3C (0, q, r)) rfl op3_one (wr.heap.size + 1) rfl (Blk.new' (by simp) [_, _, _] _) (by omega) (by unfold maxLen; omega) (by simp; omega) ?_
        intro v' w2 hown2 hgrow
        go_frame
        go_wp2
        go_roundw
        case rel =>
          refine ⟨k + 1, by omega, by go_num, ?_, ?_, ?_⟩
          · rw [Hst.out]
            simp only [List.length_append, List.length_singleton, List.flatMap_append, List.flatMap_cons, List.flatMap_nil, List.append_nil]
            exact hown2
          · exact ((B2.alloc _).alloc _).fr (Fr.of_grown hgrow) (own_notin hown (by omega))
          · exact ((hF.alloc _).alloc _).grown hgrow (fun x hx => .inr (by have := hob x hx; omega))
        case measure => simp [intOf]; omega
      · rw [if_neg hp, List.append_nil] at Hst
        go_wp2
        go_roundw
        case rel => exact ⟨k + 1, by omega, by go_num, by rw [Hst.out]; exact hown.alloc _, B2.alloc _, hF.alloc _⟩
        case measure => simp [intOf]; omega
    · have hke : k = l.length := by omega
      rw [hke, List.take_length] at hown
      clear hke
      have hs : SlP wr u5 (setsOf l) := SlF.of_owns hown
      generalize setsOf l = M at *
      go_wp2_with fail
      refine (made_any 40 A u5 M _ hs Hgood.out).mono ?_
      rintro e w1 ⟨pa, x1, y1, a1, n1, c1, rfl, hf1, hA⟩
      have B21 := (B2.fr0 hf1).alloc (.cells #[.int .i64 x1, .int .i64 y1, .slice a1 n1 c1] 28)
      have hs1 := (SlF.fr0 hs hf1).fr0 ((Fr.refl _ _).alloc (.cells #[.int .i64 x1, .int .i64 y1, .slice a1 n1 c1] 28))
      have hF1 := (hF.trans0 hf1).alloc (.cells #[.int .i64 x1, .int .i64 y1, .slice a1 n1 c1] 28)
      have hb2 := (B2.fr0 hf1).cell
      have hl2 := (B2.fr0 hf1).lt
      clear b2 l2
      go_wp2_with fail
      refine (made_any 40 B u5 M _ hs1 Hgood.out).mono ?_
      rintro e w2 ⟨pb, x2, y2, a2, n2, c2, rfl, hf2, hB⟩
      have B22 := (B21.fr0 hf2).alloc (.cells #[.int .i64 x2, .int .i64 y2, .slice a2 n2 c2] 28)
      have hF2 := (hF1.trans0 hf2).alloc (.cells #[.int .i64 x2, .int .i64 y2, .slice a2 n2 c2] 28)
      have b22 := B22.cell
      have l22 := B22.lt
      have b2' := (B21.fr0 hf2).cell
      have l2' := (B21.fr0 hf2).lt
      have PA : Hid (okMade 40 A M = true → pow2 A = true) := hidIt (fun h => by simp [okMade, okNew] at h; exact h.1.2)
      have PB : Hid (okMade 40 B M = true → pow2 B = true) := hidIt (fun h => by simp [okMade, okNew] at h; exact h.1.2)
      generalize okMade 40 A M = p at *
      generalize okMade 40 B M = q at *
      clear hs hs1 hv hown hb2 hl2 B2 hF1 hF
      cases p
      · clear hA hB
        go_wp2_with fail
        refine (alive_calls _).mono ?_
        rintro e w3 ⟨rfl, hf3⟩
        go_wp2
        go_ret
        exact ⟨rfl, hF2.trans0 hf3⟩
      · cases q
        · clear hA hB
          go_wp2_with fail
          refine (alive_calls _).mono ?_
          rintro e w3 ⟨rfl, hf3⟩
          go_wp2
          go_ret
          exact ⟨rfl, hF2.trans0 hf3⟩
        · by_cases hAB : B < A
          · clear hA hB
            go_wp2_with fail
            refine (alive_calls _).mono ?_
            rintro e w3 ⟨rfl, hf3⟩
            go_wp2
            go_ret
            exact ⟨rfl, hF2.trans0 hf3⟩
          · obtain ⟨ta, ma, rfl, hWA⟩ := hA rfl
            obtain ⟨tb, mb, rfl, hWB⟩ := hB rfl
            have pA := PA.out rfl
            have pB := PB.out rfl
            have ga := pow2_le pA
            have gb := pow2_le pB
            obtain ⟨a, rfl⟩ := Int.eq_ofNat_of_zero_le (by omega : 0 ≤ A)
            obtain ⟨b, rfl⟩ := Int.eq_ofNat_of_zero_le (by omega : 0 ≤ B)
            obtain ⟨eA, eB, hfine⟩ := fine_all pA pB (by omega) M Hkind.out
            rw [eA, Int.toNat_natCast] at hWA
            rw [eB, Int.toNat_natCast] at hWB
            have H : ∀ s : Nat, s < 40 → Hid (isB 40 a (stOf 40 (a : Int) M).2 s = true → isB 40 b (stOf 40 (b : Int) M).2 s = true) := fun s hs => hidIt (fun h => by
              unfold isB at h ⊢
              rw [Int.toNat_natCast] at h ⊢
              simp only [Bool.and_eq_true] at h ⊢
              exact ⟨h.1, hfine s hs h.2⟩)
            clear eA eB hfine PA PB Hkind pA pB
            generalize (stOf 40 (a : Int) M).2 = LA at *
            generalize (stOf 40 (b : Int) M).2 = LB at *
            replace hWA := ((hWA.fr0 ((Fr.refl _ _).alloc (.cells #[.int .i64 x1, .int .i64 y1, .slice a1 n1 c1] 28))).fr0 hf2).fr0 ((Fr.refl _ _).alloc (.cells #[.int .i64 x2, .int .i64 y2, .slice a2 n2 c2] 28))
            replace hWB := hWB.fr0 ((Fr.refl _ _).alloc (.cells #[.int .i64 x2, .int .i64 y2, .slice a2 n2 c2] 28))
            go_wp2_with fail
            refine (Sectors_calls ta ma 40 a LA _ hWA).mono ?_
            rintro e w3 ⟨rfl, rfl⟩
            go_wp2_with fail
            go_loopw [14, 61] (fun _ i wr => ∃ s : Nat, s ≤ 40 ∧ i = .int .i64 (s : Int) ∧ BitW wr ta ma 40 a LA ∧ BitW wr tb mb 40 b LB ∧ Fr [] w wr) (fun _ i _ => 40 - (intOf i).toNat)
            case atStart => exact ⟨0, by omega, rfl, hWA, hWB, hF2⟩
            case round =>
              clear hWA hWB hF2
              obtain ⟨s, hs, rfl, hWA, hWB, hF⟩ := hrel
              by_cases hlt : s < 40
              · have Hs := H s hlt
                clear H
                go_wp2_with fail
                refine (Is_calls ta ma 40 a LA s _ hWA).mono ?_
                rintro e w4 ⟨rfl, hf4⟩
                replace hWA := hWA.fr0 hf4
                replace hWB := hWB.fr0 hf4
                replace hF := hF.trans0 hf4
                generalize isB 40 a LA (s : Int) = p at *
                cases p
                · go_wp2
                  go_roundw
                  case rel => exact ⟨s + 1, by omega, by go_num, hWA, hWB, hF⟩
                  case measure => simp [intOf]; omega
                · go_wp2_with fail
                  refine (Is_calls tb mb 40 b LB s _ hWB).mono ?_
                  rintro e w5 ⟨rfl, hf5⟩
                  rw [Hs.out (by trivial)]
                  go_wp2
                  go_roundw
                  case rel => exact ⟨s + 1, by omega, by go_num, hWA.fr0 hf5, hWB.fr0 hf5, hF.trans0 hf5⟩
                  case measure => simp [intOf]; omega
              · clear H
                go_wp2_with fail
                refine (alive_calls _).mono ?_
                rintro e w4 ⟨rfl, hf4⟩
                go_wp2
                go_ret
                exact ⟨rfl, hF.trans0 hf4⟩
theorem BitsFine_any (w : World) (a b : Int) (_ : -9223372036854775808 ≤ a ∧ a ≤ 9223372036854775807) (_ : -9223372036854775808 ≤ b ∧ b ≤ 9223372036854775807) (v : Value) (l : List Op3) (hv : SlP w v l) (hw : ∀ o ∈ l, wf3 o) (hsz : l.length * 24 ≤ 140737488351232) :
    Calls Try.prog 5 #[.agg #[.int .i64 a, .int .i64 b], v] w fun e w' => e = .returned (.bool true) ∧ Fr [] w w' := BitsFine_walk a b v l w hv hw hsz
end Go.Proofs.Ytfmolbgfhchdkaa
