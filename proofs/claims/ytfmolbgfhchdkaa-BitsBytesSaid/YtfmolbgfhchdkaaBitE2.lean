/-
  Package bits: Encode (how long it is).
-/
import Derived.Test.YtfmolbgfhchdkaaBitE1
namespace Go.Proofs.Ytfmolbgfhchdkaa
open Go.RowKit Go.Maps
attribute [local go_sem] mapAt_alloc mapAt_setCell mapAt_drew mapAt_drewN

set_option maxRecDepth 100000 in
set_option maxHeartbeats 4000000 in
theorem Encode_len (tb mb S g : Nat) (l : List Bool) (w : World) (h : BitW w tb mb S g l) : Calls Try.prog 27 #[.pointer (some ⟨tb, 0, none⟩)] w
    fun e w' => ∃ a c, e = .returned (.slice a (3 + (gran S g + 7) / 8) c) ∧ Fr [] w w' := by
  have hS := h.size
  have hg := h.grain
  have hle := gran_le h.size h.grain.1
  have hlen := hidIt h.len
  obtain ⟨hlt, hmlt⟩ := h.lt
  have c := h.blk.cell
  go_enter Try.func27, Try.ntmps27
  go_wp2_with fail
  have B13 := Blk.new w [.int .i64 S] 3
  refine (Put2_calls (S : Int) (by omega) (by omega) w.heap.size (.slice none 0 0) 0 [] w.heap.size _ (World.ownsRow_nil _ _ _ _) (by omega) (by simp) B13 (by simp [Value.ownBlock])).mono ?_
  rintro e w1 ⟨v1, xs1, rfl, hown1, hf1⟩
  have hF1 : Fr [] w w1 := ((Fr.refl [] w).alloc (.cells #[.int .i64 S] 3)).trans hf1 (by simp [Value.ownBlock])
  have h1 := h.fr0 hF1
  have c1 := h1.blk.cell
  have hlt1 := h1.lt
  have hob1 := own_base hown1
  have hsz1 := hF1.size
  clear c
  go_wp2_with fail
  have B23 := Blk.new w1 [.int .i64 g] 3
  refine (Put1_calls (g : Int) (by omega) (by omega) w.heap.size v1 2 _ w1.heap.size _ (hown1.alloc _) (by omega) (by simp; omega) B23 (fun k hk e => by have := (hown1.lt k hk).2; omega)).mono ?_
  rintro e w2 ⟨v2, xs2, rfl, hown2, hf2⟩
  have hF2 : Fr [] w w2 := (hF1.alloc (.cells #[.int .i64 g] 3)).trans hf2 (fun x hx hl => by have := hob1 x (by simpa using hx); omega)
  have hW2 := h.fr0 hF2
  clear hf1 hf2 hob1 B13 B23 h1 c1 hown1 hF1 hsz1 hlt1 hlt hmlt
  go_wp2_with fail
  go_loopw [3, 5] (fun v i wr => ∃ (k : Nat) (xs : List Value), k ≤ (gran S g + 7) / 8 ∧ i = .int .i64 ((8 * k : Nat) : Int) ∧ wr.ownsRow w.heap.size 5 1 v (3 + k) xs ∧ Fr [] w wr) (fun _ i _ => 10000 - (intOf i).toNat)
  case atStart => exact ⟨0, _, Nat.zero_le _, rfl, hown2, hF2⟩
  case round =>
    obtain ⟨k, xs, hk, rfl, hown, hF⟩ := hrel
    have hW := h.fr0 hF
    go_wp2_with fail
    refine (granules_calls tb mb S g l _ hW).mono ?_
    rintro e w3 ⟨rfl, hf3⟩
    have hF3 := hF.trans0 hf3
    replace hown := owns_fr hown hf3 (by simp)
    have hW3 := h.fr0 hF3
    have c := hW3.blk.cell
    obtain ⟨es, clock, hm, hi⟩ := hW3.map
    clear hW hF hf3 hW2 hF2 hown2
    by_cases hlt : 8 * k < gran S g
    · go_wp2_with fail
      go_loopw [6, 7, 33] (fun x _ j wr => wr = w3 ∧ ∃ (X : Int) (jj : Nat), x = .int .u8 X ∧ jj ≤ 8 ∧ j = .int .i64 (jj : Int)) (fun _ _ j _ => 8 - (intOf j).toNat)
      case atStart => exact ⟨rfl, 0, 0, rfl, by omega, rfl⟩
      case round =>
        obtain ⟨rfl, X, jj, rfl, hj, rfl⟩ := hrel
        by_cases hj8 : jj < 8
        · have hlook : ∀ W, mapAt W mb = some (es, clock) → (Instr.lookup 69 (.map (some mb)) (.int .i64 (8 * (k : Int) + (jj : Int))) false).run Try.prog W = .ok (.int .i64 (if l.getD (8 * k + jj) false = true then 1 else 0)) W := fun W hW => by
            have e : 8 * (k : Int) + (jj : Int) = ((8 * k + jj : Nat) : Int) := by simp
            rw [e]
            exact look_bit hi hW (8 * k + jj) (by omega)
          generalize l.getD (8 * k + jj) false = q at *
          clear hown hW3 hi
          cases q
          · go_wp2
            go_roundw
            case rel => exact ⟨trivial, X, jj + 1, rfl, by omega, by go_num⟩
            case measure => simp [intOf]; omega
          · go_wp2
            go_roundw
            case rel => exact ⟨trivial, _, jj + 1, rfl, by omega, by go_num⟩
            case measure => simp [intOf]; omega
        · have hob := own_base hown
          have hsz := hF3.size
          clear hm hi c
          go_wp2_with (at_builtin; refine Hid.out ?_)
          refine hidIt ?_
          refine wpList_append1 53 5 (.int .u8 0) 1 1 Try.underlying53 infoByte rfl (by decide) (by decide) rfl _ _ rfl w.heap.size _ (3 + k) xs rfl (hown.alloc _) [.int .u8 X] rfl (by intro u hu; simp at hu; subst hu; rfl) wr.heap.size rfl (Blk.new _ _ _) (by omega) (by simp; omega) ?_
          intro v4 w4 hown4 hgrow4 hloc4
          go_frame
          go_wp2
          go_roundw
          case rel => exact ⟨k + 1, _, by omega, by go_num, hown4, (hF3.alloc _).grown hgrow4 (fun x hx => .inr (hob x hx))⟩
          case measure => simp [intOf]; omega
    · have hke : Hid (k = (gran S g + 7) / 8) := hidIt (by omega)
      obtain ⟨a, cp, rfl, _, _, _⟩ := Sl.of_owns hown
      clear hm hi
      go_wp2
      go_ret
      exact ⟨a, cp, by rw [← hke.out]; rfl, hF3⟩
end Go.Proofs.Ytfmolbgfhchdkaa
