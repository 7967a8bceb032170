/-
  Counts that wrap: few, own, plain, ref19.Refs of rows of any number, each as long as a slice may be.
-/
import Derived.Test.YtmbbmombhkaeoaaChkE
namespace Go.Proofs.Ytmbbmombhkaeoaa
open Go.RowKit
attribute [local go_sem high] equalSlot0 equalSlotR0

/-- a count, as an int holds it -/
def wz (n : Nat) : Int := IntKind.i64.wrap n
theorem wz_add (a b : Nat) : IntKind.i64.wrap (wz a + b) = wz (a + b) := by unfold wz; simp only [IntKind.wrap_i64]; omega
theorem wz_succ (a : Nat) : IntKind.i64.wrap (wz a + 1) = wz (a + 1) := wz_add a 1
theorem wz_zero : wz 0 = 0 := by decide
/-- rows that may be: none is longer than a slice -/
def Bnd (ls : List (List Slt)) : Prop := ls.length ≤ 5864062014634 ∧ ∀ i, (ls.getD i []).length ≤ 5864062014634
def fewW (n : List Int) (ls : List (List Slt)) : Bool := decide (n.length ≤ 60) && decide (wz (tot ls) ≤ 200)
/-- 'out = append(out, x)', x one element in a block of its own: of any length that may be -/
theorem wpList_append1W {P : Program} (T E : TypeId) (z : Value) (size bytes : Nat) (ht : P.underlying T = some (.slice E)) (hinfo : (P.info? E).map (fun i => (i.zero, i.size, i.bytes)) = some (some z, size, bytes))
    (hzs : z.cells.size = size) (hsz : 0 < size) {ops : Array Oper} {rest : List Oper} {o : Oper} {a : Act} {Q : Exit → Act → World → Prop} {w : World} (hgd : o.guard = none) (s x : Operand)
    (ho : o.op = .call { callee := .builtin .append, args := #[s, x], argTypes := #[T, T] }) (base : Nat) (v : Value) (n : Nat) (xs : List Value) (hs : a.eval s = v) (hown : w.ownsRow base E size v n xs)
    (cs : List Value) (hcs : cs.length = size) (h1 : ∀ u ∈ cs, u.oneCell' = true) (nb : Nat) (hx : a.eval x = .slice (some ⟨nb, 0, none⟩) 1 1) {tb : TypeId} (hB : Blk w nb cs tb) (hn : (n + 1) * bytes ≤ 140737488355328) (hn1 : n + 1 ≤ maxLen) (hbase : base ≤ w.heap.size)
    (h : ∀ v' w', w'.ownsRow base E size v' (n + 1) (xs ++ cs) → w.grownBy w' v.ownBlock → (v'.ownBlock = v.ownBlock ∨ v'.ownBlock = some w.heap.size) → wpList P ops Q rest (a.put o.dst v') w') : wpList P ops Q (o :: rest) a w := by
  obtain ⟨i0, hi, hz0, hz1, hz2⟩ := info_parts hinfo
  refine wpList_append_own_at w hgd s x T ho base E i0 z size bytes ht hi hz0 hz1 hz2 hzs hsz v n xs hs hown ⟨nb, 0, none⟩ 1 1 cs hx (by omega) (fun j u hu => ?_) h1 hn1 hn hbase (fun v' w' g1 g2 _ g4 => h v' w' g1 g2 g4)
  have hadd : (⟨nb, 0, none⟩ : Addr).add j = ⟨nb, j, none⟩ := by unfold Addr.add; split <;> simp_all
  rw [hadd, hB.cell j]
  exact hu
set_option maxRecDepth 100000 in
set_option maxHeartbeats 800000 in
theorem few_callsW (v u : Value) (n : List Int) (ls : List (List Slt)) (w : World) (hv : SlI w v n) (hu : SlR w u ls) (ht : Bnd ls) :
    Calls Try.prog 8 #[v, u] w fun e w' => e = .returned (.bool (fewW n ls)) ∧ Fr [] w w' := by
  obtain ⟨a, cap, rfl, hlc, hcm, _⟩ := hv.open
  obtain ⟨a', cap', rfl, hlc', hcm'⟩ := hu.open
  unfold maxLen at hcm hcm'
  have Hd : Hid (fewW n ls = (decide (n.length ≤ 60) && decide (wz (tot ls) ≤ 200))) := hidIt rfl
  go_enter Try.func8, Try.ntmps8
  go_wp2
  go_loopw [5, 10] (fun s i wr => ∃ k : Nat, k ≤ ls.length ∧ s = .int .i64 (wz (tot (ls.take k))) ∧ i = .int .i64 k ∧ Fr [] w wr) (fun _ i _ => ls.length - (intOf i).toNat)
  case atStart => exact ⟨0, Nat.zero_le _, rfl, rfl, Fr.refl _ _⟩
  case round =>
    obtain ⟨k, hk, rfl, rfl, hF⟩ := hrel
    by_cases hlt : k < ls.length
    · obtain ⟨b, off, a2, cap2, rfl, hb, c0, hs, hm2⟩ := SlR.at (hu.fr0 hF) hlt
      have hm3 := ht.2 k
      have hw := wz_add (tot (ls.take k)) ((ls.getD k []).length + 1)
      rw [← tot_take_succ hlt] at hw
      push_cast at hw
      obtain ⟨Y, HY⟩ : ∃ Y, Hid (wz (tot (ls.take (k + 1))) = Y) := ⟨_, hidIt rfl⟩
      rw [HY.out] at hw
      generalize wz (tot (ls.take k)) = X at *
      generalize (ls.getD k []).length = m at *
      clear hs
      go_wp2
      go_roundw
      case rel => exact ⟨k + 1, by omega, by rw [HY.out], by go_num, hF⟩
      case measure => simp [intOf]; omega
    · have Hk : Hid (k = ls.length) := hidIt (by omega)
      have Ht : Hid (ls.take k = ls) := hidIt (List.take_of_length_le (by omega))
      rw [Ht.out]
      generalize wz (tot ls) = T at *
      by_cases hn : n.length ≤ 60
      · have hn' : (n.length : Int) ≤ 60 := by omega
        go_wp2
        go_ret
        rw [Hd.out]
        exact ⟨ret_bool (by simp [hn]), hF⟩
      · have hn' : ¬ (n.length : Int) ≤ 60 := by omega
        go_wp2
        go_ret
        rw [Hd.out]
        exact ⟨ret_bool (by simp [hn]), hF⟩
-- from Chk
set_option maxRecDepth 100000 in
set_option maxHeartbeats 1600000 in
theorem own_callsW (u : Value) (ls : List (List Slt)) (w : World) (hu : SlR w u ls) (ht : Bnd ls) :
    Calls Try.prog 11 #[u] w fun e w' => ∃ v, e = .returned v ∧ SlR w' v ls ∧ Fr [] w w' := by
  obtain ⟨a', cap', rfl, hlc', hcm'⟩ := hu.open
  unfold maxLen at hcm'
  have htl := ht.1
  go_enter Try.func11, Try.ntmps11
  go_wp2
  go_loopw [3, 11] (fun out i wr => ∃ k : Nat, k ≤ ls.length ∧ i = .int .i64 k ∧ MadeR wr w.heap.size 41 out (ls.take k) ∧ Fr [] w wr) (fun _ i _ => ls.length - (intOf i).toNat)
  case atStart => exact ⟨0, Nat.zero_le _, rfl, MadeR.nil _ _ _, Fr.refl _ _⟩
  case round =>
    obtain ⟨k, hk, rfl, hM, hF⟩ := hrel
    by_cases hlt : k < ls.length
    · obtain ⟨b, off, a2, cap2, rfl, hb, c0, hs, hm2⟩ := SlR.at (hu.fr0 hF) hlt
      have Hst : Hid (ls.take (k + 1) = ls.take k ++ [ls.getD k []]) := hidIt (by
        have hg : ls[k] = ls.getD k [] := by rw [List.getD_eq_getElem?_getD, List.getElem?_eq_getElem hlt]; rfl
        rw [List.take_succ_eq_append_getElem hlt, hg])
      have hml := ht.2 k
      have hkl : (ls.take k).length = k := by simp; omega
      generalize ls.take k = done at *
      generalize ls.getD k [] = l at *
      generalize wr = wo at *
      go_wp2
      go_loopw [6, 17] (fun x j w2 => ∃ m : Nat, m ≤ l.length ∧ j = .int .i64 m ∧ w2.ownsRow wo.heap.size 45 3 x m ((l.take m).flatMap slotC) ∧ Fr [] wo w2) (fun _ j _ => l.length - (intOf j).toNat)
      case atStart => exact ⟨0, Nat.zero_le _, rfl, World.ownsRow_nil _ _ _ _, Fr.refl _ _⟩
      case round =>
        obtain ⟨m, hm, rfl, hown, hF2⟩ := hrel
        by_cases hlm : m < l.length
        · obtain ⟨b3, off3, rfl, hb3, d0, d1, d2⟩ := SlS.at (hs.fr0 hF2) hlm
          have Hsm := hidIt (take_flat_succ hlm)
          have hnb := own_base hown
          have hsz := hF2.size
          generalize l.getD m zS = s at *
          go_wp2_with (at_builtin; refine wpList_append1W 41 45 _ 3 24 Try.underlying41 infoSlot rfl (by decide) rfl _ _ rfl wo.heap.size _ _ _ rfl ((hown.alloc _).alloc _) (slotC s) rfl slot_one (wr.heap.size + 1) rfl (Blk.new' (by simp) _ _) (by omega) (by unfold maxLen; omega) (by simp; omega) ?_; intro v' w3 hown2 hgrow hloc)
          go_roundw
          case rel => exact ⟨m + 1, by omega, by go_num, by rw [Hsm.out]; exact hown2, ((hF2.alloc _).alloc _).grown hgrow (fun x hx => .inr (hnb x hx))⟩
          case measure => simp [intOf]; omega
        · have hml2 : m = l.length := by omega
          subst hml2
          rw [List.take_length] at hown
          have hM2 := hM.fr hF2 (by simp)
          have hF3 := hF.trans0 hF2
          have hsl : SlS wr u6 l := SlF.of_owns hown
          have hxb : ∀ b, u6.ownBlock = some b → b < wr.heap.size ∧ u3.ownBlock ≠ some b := fun b hb => ⟨(hown.lt b hb).2, fun h3 => by have := (hM.lt b h3).2; have := (hown.lt b hb).1; omega⟩
          have hub := fun x hx => (hM.lt x hx).1
          have hsz := hF3.size
          obtain ⟨ax, capx, rfl, _, _, _⟩ := hsl.open
          obtain ⟨vs, hV⟩ := hM2
          have hkl' : done.length + 1 ≤ 5864062014634 := by omega
          clear hown hM
          go_wp2_with (at_builtin; refine wpList_append1W 29 41 (.slice none 0 0) 1 24 Try.underlying29 infoRow rfl (by decide) rfl _ _ rfl w.heap.size _ _ vs rfl (hV.1.alloc _) [.slice ax l.length capx] rfl (by intro u hu; simp at hu; subst hu; rfl) wr.heap.size rfl (Blk.new _ _ _) (by omega) (by unfold maxLen; omega) (by simp; omega) ?_; intro v' w3 hown3 hgrow hloc)
          go_roundw
          case rel => exact ⟨k + 1, by omega, by go_num, by rw [Hst.out]; exact (hV.fr ((Fr.refl [] _).alloc _) (by simp)).snoc hown3 hgrow hloc (hsl.fr0 ((Fr.refl [] _).alloc _)) (fun b hb => ⟨by have := (hxb b hb).1; simp; omega, (hxb b hb).2⟩), (hF3.alloc _).grown hgrow (fun x hx => .inr (hub x hx))⟩
          case measure => simp [intOf]; omega
    · have hkl : k = ls.length := by omega
      have Ht : Hid (ls.take k = ls) := hidIt (List.take_of_length_le (by omega))
      rw [Ht.out] at hM
      go_wp2
      go_ret
      exact ⟨u3, rfl, hM.slr, hF⟩
set_option maxRecDepth 100000 in
set_option maxHeartbeats 1600000 in
theorem plain_callsW (u : Value) (ls : List (List Slt)) (w : World) (hu : SlR w u ls) (ht : Bnd ls) :
    Calls Try.prog 18 #[u] w fun e w' => ∃ v, e = .returned v ∧ SlR w' v ls ∧ Fr [] w w' := by
  obtain ⟨a', cap', rfl, hlc', hcm'⟩ := hu.open
  unfold maxLen at hcm'
  have htl := ht.1
  go_enter Try.func18, Try.ntmps18
  go_wp2
  go_loopw [3, 11] (fun out i wr => ∃ k : Nat, k ≤ ls.length ∧ i = .int .i64 k ∧ MadeR wr w.heap.size 42 out (ls.take k) ∧ Fr [] w wr) (fun _ i _ => ls.length - (intOf i).toNat)
  case atStart => exact ⟨0, Nat.zero_le _, rfl, MadeR.nil _ _ _, Fr.refl _ _⟩
  case round =>
    obtain ⟨k, hk, rfl, hM, hF⟩ := hrel
    by_cases hlt : k < ls.length
    · obtain ⟨b, off, a2, cap2, rfl, hb, c0, hs, hm2⟩ := SlR.at (hu.fr0 hF) hlt
      have Hst : Hid (ls.take (k + 1) = ls.take k ++ [ls.getD k []]) := hidIt (by
        have hg : ls[k] = ls.getD k [] := by rw [List.getD_eq_getElem?_getD, List.getElem?_eq_getElem hlt]; rfl
        rw [List.take_succ_eq_append_getElem hlt, hg])
      have hml := ht.2 k
      have hkl : (ls.take k).length = k := by simp; omega
      generalize ls.take k = done at *
      generalize ls.getD k [] = l at *
      generalize wr = wo at *
      go_wp2
      go_loopw [6, 17] (fun x j w2 => ∃ m : Nat, m ≤ l.length ∧ j = .int .i64 m ∧ w2.ownsRow wo.heap.size 44 3 x m ((l.take m).flatMap slotC) ∧ Fr [] wo w2) (fun _ j _ => l.length - (intOf j).toNat)
      case atStart => exact ⟨0, Nat.zero_le _, rfl, World.ownsRow_nil _ _ _ _, Fr.refl _ _⟩
      case round =>
        obtain ⟨m, hm, rfl, hown, hF2⟩ := hrel
        by_cases hlm : m < l.length
        · obtain ⟨b3, off3, rfl, hb3, d0, d1, d2⟩ := SlS.at (hs.fr0 hF2) hlm
          have Hsm := hidIt (take_flat_succ hlm)
          have hnb := own_base hown
          have hsz := hF2.size
          generalize l.getD m zS = s at *
          go_wp2_with (at_builtin; refine wpList_append1W 42 44 _ 3 24 Try.underlying42 infoSlotR rfl (by decide) rfl _ _ rfl wo.heap.size _ _ _ rfl ((hown.alloc _).alloc _) (slotC s) rfl slot_one (wr.heap.size + 1) rfl (Blk.new' (by simp) _ _) (by omega) (by unfold maxLen; omega) (by simp; omega) ?_; intro v' w3 hown2 hgrow hloc)
          go_roundw
          case rel => exact ⟨m + 1, by omega, by go_num, by rw [Hsm.out]; exact hown2, ((hF2.alloc _).alloc _).grown hgrow (fun x hx => .inr (hnb x hx))⟩
          case measure => simp [intOf]; omega
        · have hml2 : m = l.length := by omega
          subst hml2
          rw [List.take_length] at hown
          have hM2 := hM.fr hF2 (by simp)
          have hF3 := hF.trans0 hF2
          have hsl : SlS wr u6 l := SlF.of_owns hown
          have hxb : ∀ b, u6.ownBlock = some b → b < wr.heap.size ∧ u3.ownBlock ≠ some b := fun b hb => ⟨(hown.lt b hb).2, fun h3 => by have := (hM.lt b h3).2; have := (hown.lt b hb).1; omega⟩
          have hub := fun x hx => (hM.lt x hx).1
          have hsz := hF3.size
          obtain ⟨ax, capx, rfl, _, _, _⟩ := hsl.open
          obtain ⟨vs, hV⟩ := hM2
          have hkl' : done.length + 1 ≤ 5864062014634 := by omega
          clear hown hM
          go_wp2_with (at_builtin; refine wpList_append1W 23 42 (.slice none 0 0) 1 24 Try.underlying23 infoRowR rfl (by decide) rfl _ _ rfl w.heap.size _ _ vs rfl (hV.1.alloc _) [.slice ax l.length capx] rfl (by intro u hu; simp at hu; subst hu; rfl) wr.heap.size rfl (Blk.new _ _ _) (by omega) (by unfold maxLen; omega) (by simp; omega) ?_; intro v' w3 hown3 hgrow hloc)
          go_roundw
          case rel => exact ⟨k + 1, by omega, by go_num, by rw [Hst.out]; exact (hV.fr ((Fr.refl [] _).alloc _) (by simp)).snoc hown3 hgrow hloc (hsl.fr0 ((Fr.refl [] _).alloc _)) (fun b hb => ⟨by have := (hxb b hb).1; simp; omega, (hxb b hb).2⟩), (hF3.alloc _).grown hgrow (fun x hx => .inr (hub x hx))⟩
          case measure => simp [intOf]; omega
    · have hkl : k = ls.length := by omega
      have Ht : Hid (ls.take k = ls) := hidIt (List.take_of_length_le (by omega))
      rw [Ht.out] at hM
      go_wp2
      go_ret
      exact ⟨u3, rfl, hM.slr, hF⟩
set_option maxRecDepth 100000 in
set_option maxHeartbeats 1600000 in
theorem Refs_callsW (m h : Int) (u : Value) (ls : List (List Slt)) (w : World) (hu : SlR w u ls) (ht : Bnd ls) :
    Calls Try.prog 27 #[.int .i64 m, u, .int .i64 h] w fun e w' => e = .returned (.int .i64 (wz (rc m h ls))) ∧ Fr [] w w' := by
  obtain ⟨a', cap', rfl, hlc', hcm'⟩ := hu.open
  unfold maxLen at hcm'
  have htl := ht.1
  go_enter Try.func27, Try.ntmps27
  go_wp2
  go_loopw [7, 8] (fun c i wr => ∃ k : Nat, k ≤ ls.length ∧ c = .int .i64 (wz (rc m h (ls.take k))) ∧ i = .int .i64 k ∧ Fr [] w wr) (fun _ i _ => ls.length - (intOf i).toNat)
  case atStart => exact ⟨0, Nat.zero_le _, rfl, rfl, Fr.refl _ _⟩
  case round =>
    obtain ⟨k, hk, rfl, rfl, hF⟩ := hrel
    by_cases hlt : k < ls.length
    · obtain ⟨b, off, a2, cap2, rfl, hb, c0, hs, hm2⟩ := SlR.at (hu.fr0 hF) hlt
      have Hst := hidIt (rc_step (m := m) (h := h) hlt)
      have hml := ht.2 k
      generalize rc m h (ls.take k) = R at *
      generalize ls.getD k [] = l at *
      generalize wr = wo at *
      go_wp2
      go_loopw [7, 9] (fun c j w2 => ∃ i : Nat, i ≤ l.length ∧ c = .int .i64 (wz (R + rc1 m h (l.take i))) ∧ j = .int .i64 i ∧ Fr [] wo w2) (fun _ j _ => l.length - (intOf j).toNat)
      case atStart => exact ⟨0, Nat.zero_le _, by simp [rc1], rfl, Fr.refl _ _⟩
      case round =>
        obtain ⟨j, hj, rfl, rfl, hF2⟩ := hrel
        have c0' := (World.cell?_of_block (hF2.block b hb (by simp))).trans c0
        by_cases hlj : j < l.length
        · obtain ⟨b3, off3, rfl, hb3, d0, d1, d2⟩ := SlS.at (hs.fr0 hF2) hlj
          have Hsj := hidIt (rc1_step (m := m) (h := h) hlj)
          generalize rc1 m h (l.take j) = T at *
          obtain ⟨Y, HY⟩ : ∃ Y, Hid (wz (R + (T + 1)) = Y) := ⟨_, hidIt rfl⟩
          have hw := wz_succ (R + T)
          rw [Nat.add_assoc, HY.out] at hw
          obtain ⟨X, HX⟩ : ∃ X, Hid (wz (R + T) = X) := ⟨_, hidIt rfl⟩
          rw [HX.out] at hw ⊢
          have hs3 := hs.fr0 hF2
          clear hs
          generalize l.getD j zS = s at *
          obtain ⟨s0, s1, s2⟩ := s
          simp only at d0 d1 d2 Hsj
          go_wp2_with fail
          refine (rHas_calls s0 s1 s2 m _).mono ?_
          rintro e w3 ⟨rfl, hf⟩
          have c0'' := (World.cell?_of_block (hf.block b (Nat.lt_of_lt_of_le hb hF2.size) (by simp))).trans c0'
          have e1 := (World.cell?_of_block (hf.block b3 hb3 (by simp))).trans d1
          replace hF2 := hF2.trans0 hf
          clear c0' d0 d1 d2 hf hs3
          generalize hasS (s0, s1, s2) m = q at *
          cases q
          · have Hsj' : Hid (rc1 m h (l.take (j + 1)) = T) := hidIt (by rw [Hsj.out]; simp)
            go_wp2
            go_roundw
            case rel => exact ⟨j + 1, by omega, by rw [Hsj'.out, HX.out], by go_num, hF2⟩
            case measure => simp [intOf]; omega
          · by_cases hs1 : s1 = h
            · have Hsj' : Hid (rc1 m h (l.take (j + 1)) = T + 1) := hidIt (by rw [Hsj.out]; simp [hs1])
              go_wp2
              go_roundw
              case rel => exact ⟨j + 1, by omega, by rw [Hsj'.out, HY.out], by go_num, hF2⟩
              case measure => simp [intOf]; omega
            · have Hsj' : Hid (rc1 m h (l.take (j + 1)) = T) := hidIt (by rw [Hsj.out]; simp [hs1])
              go_wp2
              go_roundw
              case rel => exact ⟨j + 1, by omega, by rw [Hsj'.out, HX.out], by go_num, hF2⟩
              case measure => simp [intOf]; omega
        · have Htl : Hid (l.take j = l) := hidIt (List.take_of_length_le (by omega))
          rw [Htl.out]
          generalize rc1 m h l = T at *
          go_wp2
          go_roundw
          case rel => exact ⟨k + 1, by omega, by rw [Hst.out], by go_num, hF.trans0 hF2⟩
          case measure => simp [intOf]; omega
    · have Ht : Hid (ls.take k = ls) := hidIt (List.take_of_length_le (by omega))
      rw [Ht.out]
      obtain ⟨R, HR⟩ : ∃ R, Hid (wz (rc m h ls) = R) := ⟨_, hidIt rfl⟩
      rw [HR.out]
      go_wp2
      go_ret
      exact ⟨ret_int (by rw [HR.out]), hF⟩
end Go.Proofs.Ytmbbmombhkaeoaa
