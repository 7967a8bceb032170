/-
  ref10.Row.
-/
import Derived.Test.YtfmolbgfhchdkaaSpanR
import Derived.Test.YtfmolbgfhchdkaaSpanB
import Derived.Test.YtfmolbgfhchdkaaBitZ
namespace Go.Proofs.Ytfmolbgfhchdkaa
open Go.RowKit Go.Maps

set_option maxRecDepth 100000 in
set_option maxHeartbeats 1600000 in
theorem rRow_calls (S g : Nat) (u : Value) (l : List Bool) (w : World) (hu : SlB w u l) (hS : S ≤ 4096) (hg : 0 < g ∧ g ≤ 64) (hlen : l.length = gran S g) :
    Calls Try.prog 24 #[.agg #[.int .i64 S, .int .i64 g, u]] w fun e w' => ∃ v', e = .returned v' ∧ SlP w' v' (ofE (kindsB S g l S)) ∧ Fr [] w w' := by
  obtain ⟨a, cap, rfl, _, _, _⟩ := hu.open
  have hlen' := hidIt hlen
  clear hlen
  have B1 := Blk.new w [.int .i64 S, .int .i64 g, .slice a l.length cap] 28
  have hF1 := (Fr.refl [] w).alloc (.cells #[.int .i64 S, .int .i64 g, .slice a l.length cap] 28)
  go_enter Try.func24, Try.ntmps24
  go_wp2_with fail
  go_loopw [3, 4] (fun v i wr => ∃ n : Nat, n ≤ S ∧ i = .int .i64 n ∧ wr.ownsRow (w.heap.size + 1) 3 1 v n ((kindsB S g l n).flatMap intC) ∧ Blk wr w.heap.size [.int .i64 S, .int .i64 g, .slice a l.length cap] 28 ∧ Fr [] w wr) (fun _ i _ => S - (intOf i).toNat)
  case atStart => exact ⟨0, Nat.zero_le _, rfl, World.ownsRow_nil _ _ _ _, B1, hF1⟩
  case round =>
    clear B1 hF1
    obtain ⟨n, hnl, rfl, hown, B1, hF⟩ := hrel
    have b1 := B1.cell
    by_cases hlt : n < S
    · have Hst := hidIt (kindsB_succ S g l n)
      generalize kindsB S g l n = K at *
      go_wp2_with fail
      refine (rIs_calls S g _ l n _ (SlF.fr0 hu hF) hS hg hlen'.out).mono ?_
      rintro e w2 ⟨rfl, hf2⟩
      have hown2 := owns_fr hown hf2 (by simp)
      have hF2 := hF.trans0 hf2
      have B2 := B1.fr0 hf2
      have hob := own_base hown2
      have hsz := hF2.size
      have hbl := B2.lt
      clear hown hF hf2 B1 b1
      generalize isB S g l (n : Int) = q at *
      cases q
      · go_wp2_with (at_builtin; refine Hid.out ?_)
        refine hidIt ?_
        refine wpList_append1 60 3 (.int .i64 0) 1 8 Try.underlying60 infoInt rfl (by decide) (by decide) rfl _ _ rfl (w.heap.size + 1) u3 n (K.flatMap intC) rfl (hown2.alloc _) (intC 0) rfl int_one w2.heap.size rfl (Blk.new _ _ _) (by omega) (by simp; omega) ?_
        intro v' w3 hown3 hgrow hloc
        go_frame
        go_wp2
        go_roundw
        case rel => exact ⟨n + 1, by omega, by go_num, by rw [Hst.out]; simpa using hown3, (B2.alloc _).fr (Fr.of_grown hgrow) (own_notin hown2 (by omega)), (hF2.alloc _).grown hgrow (fun x hx => .inr (by have := hob x hx; omega))⟩
        case measure => simp [intOf]; omega
      · go_wp2_with (at_builtin; refine Hid.out ?_)
        refine hidIt ?_
        refine wpList_append1 60 3 (.int .i64 0) 1 8 Try.underlying60 infoInt rfl (by decide) (by decide) rfl _ _ rfl (w.heap.size + 1) u3 n (K.flatMap intC) rfl (hown2.alloc _) (intC 1) rfl int_one w2.heap.size rfl (Blk.new _ _ _) (by omega) (by simp; omega) ?_
        intro v' w3 hown3 hgrow hloc
        go_frame
        go_wp2
        go_roundw
        case rel => exact ⟨n + 1, by omega, by go_num, by rw [Hst.out]; simpa using hown3, (B2.alloc _).fr (Fr.of_grown hgrow) (own_notin hown2 (by omega)), (hF2.alloc _).grown hgrow (fun x hx => .inr (by have := hob x hx; omega))⟩
        case measure => simp [intOf]; omega
    · have hke : n = S := by omega
      subst hke
      have hsl : SlI wr u3 (kindsB n g l n) := SlF.of_owns (base := w.heap.size + 1) (e := 3) (size := 1) (by rw [kindsB_len]; exact hown)
      have hkl := kindsB_len n g l n
      go_wp2_with fail
      refine (rOf_calls u3 _ _ hsl (by omega)).mono ?_
      rintro e w2 ⟨v2, rfl, hs2, hf2⟩
      go_wp2
      go_ret
      exact ⟨v2, rfl, hs2, hF.trans0 hf2⟩
end Go.Proofs.Ytfmolbgfhchdkaa
