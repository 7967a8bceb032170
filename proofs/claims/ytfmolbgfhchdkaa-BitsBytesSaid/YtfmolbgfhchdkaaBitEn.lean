/-
  Package bits: Encode, with the bytes' values.
-/
import Derived.Test.YtfmolbgfhchdkaaBitByte
import Derived.Test.YtfmolbgfhchdkaaOctP
namespace Go.Proofs.Ytfmolbgfhchdkaa
open Go.RowKit Go.Maps
attribute [local go_sem] mapAt_alloc mapAt_setCell mapAt_drew mapAt_drewN

theorem or_bit (V k : Nat) (hk : k < 8) (hV : V < 2 ^ k) : bits .or .u8 (V : Int) ((2 : Int) ^ k % 256) = ((V + 2 ^ k : Nat) : Int) := by
  have hk2 : 2 ^ k ≤ 128 := Nat.le_trans (Nat.pow_le_pow_right (by omega) (by omega : k ≤ 7)) (by decide)
  have e0 : (2 : Int) ^ k % 256 = ((2 ^ k : Nat) : Int) := by
    rw [show (2 : Int) ^ k = ((2 ^ k : Nat) : Int) from (Int.natCast_pow 2 k).symm]
    omega
  rw [e0]
  have e1 : (BitVec.ofInt 8 (V : Int)).toNat = V := by rw [BitVec.toNat_ofInt]; omega
  have e2 : (BitVec.ofInt 8 ((2 ^ k : Nat) : Int)).toNat = 2 ^ k := by rw [BitVec.toNat_ofInt]; omega
  have e3 : V ||| 2 ^ k = V + 2 ^ k := by
    have := Nat.two_pow_add_eq_or_of_lt hV 1
    rw [Nat.mul_one] at this
    rw [Nat.or_comm, ← this, Nat.add_comm]
  show IntKind.u8.wrap ((BitVec.ofInt 8 (V : Int) ||| BitVec.ofInt 8 ((2 ^ k : Nat) : Int)).toNat : Int) = _
  rw [BitVec.toNat_or, e1, e2, e3]
  generalize 2 ^ k = D at *
  simp [IntKind.wrap, IntKind.signed, IntKind.bits]
  omega
set_option maxRecDepth 100000 in
set_option maxHeartbeats 4000000 in
theorem EncodeB_calls (tb mb S g : Nat) (l : List Bool) (w : World) (h : BitW w tb mb S g l) : Calls Try.prog 27 #[.pointer (some ⟨tb, 0, none⟩)] w
    fun e w' => ∃ u, e = .returned u ∧ w'.ownsRow w.heap.size 5 1 u (encB S g l).length ((encB S g l).flatMap byC) ∧ Fr [] w w' := by
  have hS := h.size
  have hg := h.grain
  have hle := gran_le h.size h.grain.1
  have hlen := hidIt h.len
  obtain ⟨hlt, hmlt⟩ := h.lt
  have c := h.blk.cell
  have Henc : Hid (encB S g l = (numL 2 S ++ numL 1 g) ++ bodyB l (nbB (gran S g))) := hidIt (by unfold encB; rw [hlen.out])
  go_enter Try.func27, Try.ntmps27
  go_wp2_with fail
  refine (Put_calls 2 (by omega) [S] (by intro x hx; have := List.mem_singleton.1 hx; subst this; (show _ < 65536); omega) w.heap.size _ [] w.heap.size 1 _ (World.ownsRow_nil _ _ _ _) (by simp) (by simp) (Blk.new w [_] _) (by simp [Value.ownBlock])).mono ?_
  rintro e w1 ⟨v1, rfl, hown1, hf1, hob1⟩
  have hF1 : Fr [] w w1 := ((Fr.refl [] w).alloc (.cells #[.int .i64 S] 3)).trans hf1 (by simp [Value.ownBlock])
  have h1 := h.fr0 hF1
  have c1 := h1.blk.cell
  have hlt1 := h1.lt
  have hb1 := own_base hown1
  have hsz1 := hF1.size
  clear c hob1
  go_wp2_with fail
  refine (Put_calls 1 (by omega) [g] (by intro x hx; have := List.mem_singleton.1 hx; subst this; (show _ < 256); omega) w.heap.size _ _ w1.heap.size 1 _ (hown1.alloc _) (by simp [numL_length]) (by simp; omega) (Blk.new w1 [_] _) (fun k hk e => by have := (hown1.lt k hk).2; omega)).mono ?_
  rintro e w2 ⟨v2, rfl, hown2, hf2, hob2⟩
  have hF2 : Fr [] w w2 := (hF1.alloc (.cells #[.int .i64 g] 3)).trans hf2 (fun x hx hl => by have := hb1 x (by simpa using hx); omega)
  have hW2 := h.fr0 hF2
  have epre : ([] : List UInt8) ++ [S].flatMap (numL 2) ++ [g].flatMap (numL 1) = numL 2 S ++ numL 1 g := by simp
  rw [epre] at hown2
  have hpl : (numL 2 S ++ numL 1 g).length = 3 := by simp [numL_length]
  generalize numL 2 S ++ numL 1 g = pre at *
  clear hf1 hf2 hb1 h1 c1 hown1 hF1 hsz1 hlt1 hlt hmlt hob2 epre
  go_wp2_with fail
  go_loopw [3, 5] (fun v i wr => ∃ (k : Nat), k ≤ nbB (gran S g) ∧ i = .int .i64 ((8 * k : Nat) : Int) ∧ wr.ownsRow w.heap.size 5 1 v (pre ++ bodyB l k).length ((pre ++ bodyB l k).flatMap byC) ∧ Fr [] w wr) (fun _ i _ => 10000 - (intOf i).toNat)
  case atStart => exact ⟨0, Nat.zero_le _, rfl, by simpa [bodyB] using hown2, hF2⟩
  case round =>
    obtain ⟨k, hk, rfl, hown, hF⟩ := hrel
    have hW := h.fr0 hF
    have hkn : k ≤ 600 := by unfold nbB at hk; omega
    have hbl := bodyB_length l k
    have hol : (pre ++ bodyB l k).length ≤ 1000 := by rw [List.length_append]; omega
    have Hst := hidIt (bodyB_succ l k)
    have Hbv : Hid (byV l k = valB (byF l k) 8) := hidIt rfl
    have Hv0 : Hid (valB (byF l k) 0 = 0) := hidIt rfl
    have Hvs : ∀ jj, Hid (valB (byF l k) (jj + 1) = valB (byF l k) jj + (if l.getD (8 * k + jj) false then 2 ^ jj else 0)) := fun jj => hidIt rfl
    have Hvl := fun jj => hidIt (valB_lt (byF l k) jj)
    clear hbl
    generalize hBk : bodyB l k = Bk at *
    replace hBk := hidIt hBk
    generalize valB (byF l k) = VB at *
    go_wp2_with fail
    refine (granules_calls tb mb S g l _ hW).mono ?_
    rintro e w3 ⟨rfl, hf3⟩
    have hF3 := hF.trans0 hf3
    replace hown := owns_fr hown hf3 (by simp)
    have hW3 := h.fr0 hF3
    have c := hW3.blk.cell
    obtain ⟨es, clock, hm, hi⟩ := hW3.map
    clear hW hF hf3 hW2 hF2 hown2
    by_cases hlt : 8 * k < gran S g
    · go_wp2_with fail
      go_loopw [6, 7, 33] (fun x _ j wr => wr = w3 ∧ ∃ (jj : Nat), x = .int .u8 ((VB jj : Nat) : Int) ∧ jj ≤ 8 ∧ j = .int .i64 (jj : Int)) (fun _ _ j _ => 8 - (intOf j).toNat)
      case atStart => exact ⟨rfl, 0, by rw [Hv0.out]; rfl, by omega, rfl⟩
      case round =>
        obtain ⟨rfl, jj, rfl, hj, rfl⟩ := hrel
        by_cases hj8 : jj < 8
        · have hlook : ∀ W, mapAt W mb = some (es, clock) → (Instr.lookup 69 (.map (some mb)) (.int .i64 (8 * (k : Int) + (jj : Int))) false).run Try.prog W = .ok (.int .i64 (if l.getD (8 * k + jj) false = true then 1 else 0)) W := fun W hW => by
            have e : 8 * (k : Int) + (jj : Int) = ((8 * k + jj : Nat) : Int) := by simp
            rw [e]
            exact look_bit hi hW (8 * k + jj) (by omega)
          have hvs := Hvs jj
          have hvl := Hvl jj
          clear Hvs Hvl Hv0
          generalize l.getD (8 * k + jj) false = q at *
          clear hown hW3 hi
          cases q
          · go_wp2
            go_roundw
            case rel => exact ⟨trivial, jj + 1, by rw [hvs.out]; simp, by omega, by go_num⟩
            case measure => simp [intOf]; omega
          · go_wp2
            rw [or_bit _ _ hj8 hvl.out]
            go_roundw
            case rel => exact ⟨trivial, jj + 1, by rw [hvs.out]; simp, by omega, by go_num⟩
            case measure => simp [intOf]; omega
        · have hj8 : jj = 8 := by omega
          subst hj8
          have hob := own_base hown
          have hsz := hF3.size
          have hv8 : VB 8 < 256 := (Hvl 8).out
          have Hcell : Hid (([.int .u8 ((VB 8 : Nat) : Int)] : List Value) = byC (UInt8.ofNat (byV l k))) := hidIt (by
            rw [byC, ofNat_toNat, Hbv.out, Nat.mod_eq_of_lt hv8])
          clear hm hi c Hvs Hvl Hv0
          generalize VB 8 = V8 at *
          go_wp2_with (at_builtin; refine Hid.out ?_)
          refine hidIt ?_
          refine wpList_append1 53 5 (.int .u8 0) 1 1 Try.underlying53 infoY rfl (by decide) (by decide) rfl _ _ rfl w.heap.size _ _ _ rfl (hown.alloc _) [.int .u8 ((V8 : Nat) : Int)] rfl (by intro u hu; simp at hu; subst hu; rfl) wr.heap.size rfl (Blk.new _ _ _) (by omega) (by simp; omega) ?_
          intro v4 w4 hown4 hgrow4 hloc4
          rw [Hcell.out] at hown4
          have e1 : (pre ++ bodyB l (k + 1)).flatMap byC = (pre ++ Bk).flatMap byC ++ byC (UInt8.ofNat (byV l k)) := by rw [Hst.out]; simp
          have e2 : (pre ++ bodyB l (k + 1)).length = (pre ++ Bk).length + 1 := by rw [Hst.out]; simp; omega
          rw [← e1, ← e2] at hown4
          have hF4 := (hF3.alloc (.cells #[.int .u8 ((V8 : Nat) : Int)] 5)).grown hgrow4 (fun x hx => .inr (hob x hx))
          clear e1 e2
          go_wp2
          go_roundw
          case rel => exact ⟨k + 1, by unfold nbB; omega, by go_num, hown4, hF4⟩
          case measure => simp [intOf]; omega
    · have hke : Hid (k = nbB (gran S g)) := hidIt (by unfold nbB at hk ⊢; omega)
      clear hm hi
      go_wp2
      go_ret
      refine ⟨_, rfl, ?_, hF3⟩
      rw [Henc.out, ← hke.out]
      rw [hBk.out]
      exact hown
end Go.Proofs.Ytfmolbgfhchdkaa
