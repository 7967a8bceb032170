/-
  Package octets: right, fits, Put of one number.
-/
import Derived.Test.YtfmolbgfhchdkaaBitI
import Derived.Test.YtfmolbgfhchdkaaBools
namespace Go.Proofs.Ytfmolbgfhchdkaa
open Go.RowKit Go.Maps

theorem infoByte : (Try.prog.info? 5).map (fun i => (i.zero, i.size, i.bytes)) = some (some (.int .u8 0), 1, 1) := by kernel_rfl
theorem oright_calls (k : Int) (hk : k = 1 ∨ k = 2) (w : World) : Calls Try.prog 61 #[.int .i64 k] w fun e w' => e = .returned (.bool true) ∧ w = w' := by
  rcases hk with rfl | rfl
  · go_enter Try.func61, Try.ntmps61
    go_wp2
    go_ret
    exact ⟨rfl, rfl⟩
  · go_enter Try.func61, Try.ntmps61
    go_wp2
    go_ret
    exact ⟨rfl, rfl⟩
theorem ofits_calls (n k : Int) (hk : (k = 1 ∧ n < 256) ∨ (k = 2 ∧ n < 65536)) (hn : 0 ≤ n) (w : World) : Calls Try.prog 63 #[.int .i64 n, .int .i64 k] w fun e w' => e = .returned (.bool true) ∧ w = w' := by
  rcases hk with ⟨rfl, hn1⟩ | ⟨rfl, hn1⟩
  · go_enter Try.func63, Try.ntmps63
    go_wp2
    go_ret
    exact ⟨rfl, rfl⟩
  · go_enter Try.func63, Try.ntmps63
    go_wp2
    go_ret
    exact ⟨rfl, rfl⟩
set_option maxRecDepth 100000 in
set_option maxHeartbeats 1600000 in
theorem Put1_calls (n : Int) (h0 : 0 ≤ n) (h1 : n < 256) (base : Nat) (v : Value) (m : Nat) (xs : List Value) (lb : Nat) (w : World) (hown : w.ownsRow base 5 1 v m xs) (hm : m ≤ 1000000) (hb : base ≤ w.heap.size) (B : Blk w lb [.int .i64 n] 3) (hlb : ∀ k, v.ownBlock = some k → lb ≠ k) :
    Calls Try.prog 51 #[v, .int .i64 1, .slice (some ⟨lb, 0, none⟩) 1 1] w
      fun e w' => ∃ v' xs', e = .returned (.tuple #[v', .bool true]) ∧ w'.ownsRow base 5 1 v' (m + 1) xs' ∧ Fr v.ownBlock.toList w w' := by
  have b := B.cell
  have lbt := B.lt
  go_enter Try.func51, Try.ntmps51
  go_wp2_with fail
  refine (oright_calls 1 (by omega) _).mono ?_
  rintro e w1 ⟨rfl, rfl⟩
  go_wp2_with fail
  refine wp_loop_rounds 2 ?_
  rw [rounds_succ]
  go_wp2_with fail
  refine (ofits_calls n 1 (by omega) h0 _).mono ?_
  rintro e w1 ⟨rfl, rfl⟩
  go_wp2_with fail
  rw [rounds_succ]
  go_wp2_with fail
  refine wp_loop_rounds 2 ?_
  rw [rounds_succ]
  go_wp2_with fail
  refine wp_loop_rounds 2 ?_
  rw [rounds_succ]
  go_wp2_with (at_builtin; refine Hid.out ?_)
  refine hidIt ?_
  refine wpList_append1 53 5 (.int .u8 0) 1 1 Try.underlying53 infoByte rfl (by decide) (by decide) rfl _ _ rfl base v m xs rfl (hown.alloc _) [_] rfl (by intro u hu; simp at hu; subst hu; rfl) w.heap.size rfl (Blk.new _ _ _) (by omega) (by simp; omega) ?_
  intro v1 w1 hown1 hgrow1 hloc1
  have hF1 : Fr v.ownBlock.toList w w1 := ((Fr.refl _ w).alloc _).grown hgrow1 (fun x hx => .inl (by simp [hx]))
  have B1 := B.fr hF1 (by intro hm; cases hv : v.ownBlock with | none => simp [hv] at hm | some k => simp [hv] at hm; exact hlb k hv hm)
  have b1 := B1.cell
  have l1 := B1.lt
  have hsz1 := hF1.size
  go_wp2_with fail
  rw [rounds_succ]
  go_wp2_with fail
  rw [rounds_succ]
  go_wp2
  go_ret2
  exact ⟨_, _, rfl, hown1, hF1⟩
set_option maxRecDepth 100000 in
set_option maxHeartbeats 1600000 in
theorem Put2_calls (n : Int) (h0 : 0 ≤ n) (h1 : n < 65536) (base : Nat) (v : Value) (m : Nat) (xs : List Value) (lb : Nat) (w : World) (hown : w.ownsRow base 5 1 v m xs) (hm : m ≤ 1000000) (hb : base ≤ w.heap.size) (B : Blk w lb [.int .i64 n] 3) (hlb : ∀ k, v.ownBlock = some k → lb ≠ k) :
    Calls Try.prog 51 #[v, .int .i64 2, .slice (some ⟨lb, 0, none⟩) 1 1] w
      fun e w' => ∃ v' xs', e = .returned (.tuple #[v', .bool true]) ∧ w'.ownsRow base 5 1 v' (m + 2) xs' ∧ Fr v.ownBlock.toList w w' := by
  have b := B.cell
  have lbt := B.lt
  go_enter Try.func51, Try.ntmps51
  go_wp2_with fail
  refine (oright_calls 2 (by omega) _).mono ?_
  rintro e w1 ⟨rfl, rfl⟩
  go_wp2_with fail
  refine wp_loop_rounds 2 ?_
  rw [rounds_succ]
  go_wp2_with fail
  refine (ofits_calls n 2 (by omega) h0 _).mono ?_
  rintro e w1 ⟨rfl, rfl⟩
  go_wp2_with fail
  rw [rounds_succ]
  go_wp2_with fail
  refine wp_loop_rounds 2 ?_
  rw [rounds_succ]
  go_wp2_with fail
  refine wp_loop_rounds 3 ?_
  rw [rounds_succ]
  go_wp2_with (at_builtin; refine Hid.out ?_)
  refine hidIt ?_
  refine wpList_append1 53 5 (.int .u8 0) 1 1 Try.underlying53 infoByte rfl (by decide) (by decide) rfl _ _ rfl base v m xs rfl (hown.alloc _) [_] rfl (by intro u hu; simp at hu; subst hu; rfl) w.heap.size rfl (Blk.new _ _ _) (by omega) (by simp; omega) ?_
  intro v1 w1 hown1 hgrow1 hloc1
  have hF1 : Fr v.ownBlock.toList w w1 := ((Fr.refl _ w).alloc _).grown hgrow1 (fun x hx => .inl (by simp [hx]))
  have B1 := B.fr hF1 (by intro hm; cases hv : v.ownBlock with | none => simp [hv] at hm | some k => simp [hv] at hm; exact hlb k hv hm)
  have b1 := B1.cell
  have l1 := B1.lt
  have hsz1 := hF1.size
  go_wp2_with fail
  rw [rounds_succ]
  go_wp2_with (at_builtin; refine Hid.out ?_)
  refine hidIt ?_
  refine wpList_append1 53 5 (.int .u8 0) 1 1 Try.underlying53 infoByte rfl (by decide) (by decide) rfl _ _ rfl base v1 (m + 1) _ rfl (hown1.alloc _) [_] rfl (by intro u hu; simp at hu; subst hu; rfl) w1.heap.size rfl (Blk.new _ _ _) (by omega) (by simp; omega) ?_
  intro v2 w2 hown2 hgrow2 hloc2
  have hF2 : Fr v.ownBlock.toList w w2 := (hF1.alloc _).grown hgrow2 (fun x hx => by
    rcases hloc1 with e | e
    · exact .inl (by rw [← e, hx]; simp)
    · rw [e] at hx; cases hx; exact .inr (by simp))
  have B2 := B.fr hF2 (by intro hm; cases hv : v.ownBlock with | none => simp [hv] at hm | some k => simp [hv] at hm; exact hlb k hv hm)
  have b2 := B2.cell
  go_wp2_with fail
  rw [rounds_succ]
  go_wp2_with fail
  rw [rounds_succ]
  go_wp2
  go_ret2
  exact ⟨_, _, rfl, hown2, hF2⟩
end Go.Proofs.Ytfmolbgfhchdkaa
