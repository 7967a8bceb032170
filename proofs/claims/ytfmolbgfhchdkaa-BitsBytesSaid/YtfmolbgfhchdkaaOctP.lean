/-
  Package octets: right, fits, Put.
-/
import Derived.Test.YtfmolbgfhchdkaaBy
namespace Go.Proofs.Ytfmolbgfhchdkaa
open Go.RowKit Go.Maps

theorem oRight_calls (k : Int) (hk : k = 1 ∨ k = 2 ∨ k = 4) (w : World) : Calls Try.prog 61 #[.int .i64 k] w fun e w' => e = .returned (.bool true) ∧ w = w' := by
  rcases hk with rfl | rfl | rfl
  all_goals
    go_enter Try.func61, Try.ntmps61
    go_wp2
    go_ret
    exact ⟨rfl, rfl⟩
theorem oFits_calls (W n : Nat) (hk : W = 1 ∨ W = 2 ∨ W = 4) (hn : n < 256 ^ W) (w : World) : Calls Try.prog 63 #[.int .i64 (n : Int), .int .i64 (W : Int)] w fun e w' => e = .returned (.bool true) ∧ w = w' := by
  have h1 : (0 : Int) ≤ (n : Int) := by omega
  rcases hk with rfl | rfl | rfl
  · have h2 : n < 256 := hn
    have h3 : (n : Int) < 256 := by omega
    clear hn h2
    go_enter Try.func63, Try.ntmps63
    go_wp2
    go_ret
    exact ⟨rfl, rfl⟩
  · have h2 : n < 65536 := hn
    have h3 : (n : Int) < 65536 := by omega
    clear hn h2
    go_enter Try.func63, Try.ntmps63
    go_wp2
    go_ret
    exact ⟨rfl, rfl⟩
  · have h2 : n < 4294967296 := hn
    have h3 : (n : Int) < 4294967296 := by omega
    clear hn h2
    go_enter Try.func63, Try.ntmps63
    go_wp2
    go_ret
    exact ⟨rfl, rfl⟩
theorem byte_form (n m : Nat) : (n : Int) / 2 ^ (8 * m) % 256 = ((UInt8.ofNat (n / 256 ^ m)).toNat : Int) := by
  rw [ofNat_toNat, show (256 : Nat) ^ m = 2 ^ (8 * m) by rw [Nat.pow_mul]]
  simp
theorem take_map_flat {ns : List Nat} {W k : Nat} (h : k < ns.length) : (ns.take (k + 1)).flatMap (numL W) = (ns.take k).flatMap (numL W) ++ numL W (ns.getD k 0) := by
  have hg : ns[k] = ns.getD k 0 := by rw [List.getD_eq_getElem?_getD, List.getElem?_eq_getElem h]; rfl
  rw [List.take_succ_eq_append_getElem h, hg, List.flatMap_append]
  simp
theorem flat_num_len (W : Nat) : ∀ ns : List Nat, (ns.flatMap (numL W)).length = ns.length * W
  | [] => by simp
  | n :: ns => by rw [List.flatMap_cons, List.length_append, numL_length, flat_num_len W ns, List.length_cons, Nat.add_mul]; omega
set_option maxRecDepth 100000 in
set_option maxHeartbeats 1600000 in
theorem Put_calls (W : Nat) (hW : W = 1 ∨ W = 2 ∨ W = 4) (ns : List Nat) (hns : ∀ n ∈ ns, n < 256 ^ W) (base : Nat) (v : Value) (bs : List UInt8) (lb : Nat) (c : Nat) (w : World)
    (hown : w.ownsRow base 5 1 v bs.length (bs.flatMap byC)) (hm : bs.length + ns.length * 4 ≤ 10000000) (hb : base ≤ w.heap.size) (B : Blk w lb (ns.map fun (n : Nat) => Value.int .i64 (n : Int)) 3) (hlb : ∀ k, v.ownBlock = some k → lb ≠ k) :
    Calls Try.prog 51 #[v, .int .i64 (W : Int), .slice (some ⟨lb, 0, none⟩) ns.length c] w
      fun e w' => ∃ v', e = .returned (.tuple #[v', .bool true]) ∧ w'.ownsRow base 5 1 v' (bs ++ ns.flatMap (numL W)).length ((bs ++ ns.flatMap (numL W)).flatMap byC) ∧ Fr v.ownBlock.toList w w' ∧ ∀ x, v'.ownBlock = some x → v.ownBlock = some x ∨ w.heap.size ≤ x := by
  have hat : ∀ k, k < ns.length → (ns.map fun (n : Nat) => Value.int .i64 (n : Int))[k]? = some (.int .i64 ((ns.getD k 0 : Nat) : Int)) := fun k hk => by
    rw [List.getElem?_map, getD_some 0 hk]; rfl
  have hfit : ∀ k, k < ns.length → ns.getD k 0 < 256 ^ W := fun k hk => hns _ (by rw [List.getD_eq_getElem?_getD, List.getElem?_eq_getElem hk]; exact List.getElem_mem _)
  have hW4 : W ≤ 4 := by omega
  have lbt := B.lt
  have keyF := fun n h w => oFits_calls W n hW h w
  have keyR := fun w => oRight_calls (W : Int) (by omega) w
  go_enter Try.func51, Try.ntmps51
  go_wp2_with fail
  refine (keyR _).mono ?_
  rintro e w1 ⟨rfl, rfl⟩
  go_wp2_with fail
  go_loopw [19] (fun i wr => ∃ k : Nat, k ≤ ns.length ∧ i = .int .i64 k ∧ w = wr) (fun i _ => ns.length - (intOf i).toNat)
  case atStart => exact ⟨0, Nat.zero_le _, rfl, rfl⟩
  case round =>
    obtain ⟨k, hk, rfl, rfl⟩ := hrel
    by_cases hlt : k < ns.length
    · have c1 := B.cell k
      rw [hat k hlt] at c1
      have hf := hfit k hlt
      generalize ns.getD k 0 = n at *
      go_wp2_with fail
      refine (keyF n hf _).mono ?_
      rintro e w1 ⟨rfl, rfl⟩
      go_wp2
      go_roundw
      case rel => exact ⟨k + 1, by omega, by go_num, trivial⟩
      case measure => simp [intOf]; omega
    · clear keyF keyR hfit
      go_wp2
      go_loopw [0, 31] (fun u i w2 => ∃ k : Nat, k ≤ ns.length ∧ i = .int .i64 k ∧ w2.ownsRow base 5 1 u (bs ++ (ns.take k).flatMap (numL W)).length ((bs ++ (ns.take k).flatMap (numL W)).flatMap byC) ∧ (∀ x, u.ownBlock = some x → v.ownBlock = some x ∨ w.heap.size ≤ x) ∧ Fr v.ownBlock.toList w w2) (fun _ i _ => ns.length - (intOf i).toNat)
      case atStart => exact ⟨0, Nat.zero_le _, rfl, by simpa using hown, fun x hx => .inl hx, Fr.refl _ _⟩
      case round =>
        obtain ⟨k, hk, rfl, hown1, hob1, hF1⟩ := hrel
        by_cases hlt : k < ns.length
        · have B1 := B.fr hF1 (by intro hx; cases hv : v.ownBlock with | none => simp [hv] at hx | some x => simp [hv] at hx; exact hlb x hv hx)
          have c1 := B1.cell k
          rw [hat k hlt] at c1
          have l1 := B1.lt
          have Hst := hidIt (take_map_flat (W := W) hlt)
          have hlen := flat_num_len W (ns.take k)
          generalize ns.getD k 0 = n at *
          go_wp2
          go_loopw [0, 36] (fun u i w2 => ∃ j : Nat, j ≤ W ∧ i = .int .i64 j ∧ w2.ownsRow base 5 1 u (bs ++ (ns.take k).flatMap (numL W) ++ (numL W n).take j).length ((bs ++ (ns.take k).flatMap (numL W) ++ (numL W n).take j).flatMap byC) ∧ (∀ x, u.ownBlock = some x → v.ownBlock = some x ∨ w.heap.size ≤ x) ∧ Fr v.ownBlock.toList w w2) (fun _ i _ => W - (intOf i).toNat)
          case atStart => exact ⟨0, Nat.zero_le _, rfl, by simpa using hown1, hob1, hF1⟩
          case round =>
            clear hown1 hob1 hF1 B1 c1 l1
            obtain ⟨j, hj, rfl, hown2, hob2, hF2⟩ := hrel
            by_cases hjl : j < W
            · have Hb := hidIt (byte_form n (W - 1 - j))
              have Ht := hidIt (numL_take (n := n) hjl)
              have hsz := hF2.size
              have hnl := numL_length W n
              have hjt : ((numL W n).take j).length = j := by simp [hnl]; omega
              have Hlt : (bs ++ (ns.take k).flatMap (numL W) ++ (numL W n).take j).length ≤ 4294967296 := by
                have : (ns.take k).length = k := by simp; omega
                rw [this] at hlen
                have : k * W ≤ k * 4 := Nat.mul_le_mul_left _ hW4
                simp only [List.length_append, hlen, hjt]
                omega
              generalize ((ns.take k).flatMap (numL W)) = pre at *
              go_wp2_with (at_builtin; refine Hid.out ?_)
              refine hidIt ?_
              refine wpList_append1 53 5 (.int .u8 0) 1 1 Try.underlying53 infoY rfl (by decide) (by decide) rfl _ _ rfl base _ _ _ rfl (hown2.alloc _) [_] rfl (by intro u hu; simp at hu; subst hu; rfl) wr.heap.size rfl (Blk.new _ _ _) Hlt (by simp; omega) ?_
              intro v2 w2 hown3 hgrow3 hloc3
              rw [Hb.out] at hown3
              have e1 : (bs ++ pre ++ (numL W n).take (j + 1)).flatMap byC = (bs ++ pre ++ (numL W n).take j).flatMap byC ++ [Value.int .u8 ((UInt8.ofNat (n / 256 ^ (W - 1 - j))).toNat : Int)] := by rw [Ht.out]; simp
              have e2 : (bs ++ pre ++ (numL W n).take (j + 1)).length = (bs ++ pre ++ (numL W n).take j).length + 1 := by rw [Ht.out]; simp; omega
              have hF3 : Fr v.ownBlock.toList w w2 := (hF2.alloc _).grown hgrow3 (fun x hx => by
                rcases hob2 x hx with h | h
                · exact .inl (by simp [h])
                · exact .inr h)
              have hob3 : ∀ x, v2.ownBlock = some x → v.ownBlock = some x ∨ w.heap.size ≤ x := fun x hx => by
                rcases hloc3 with h | h
                · rw [h] at hx; exact hob2 x hx
                · rw [h] at hx; cases hx; right; simp; omega
              clear hown2 Hb Ht
              go_wp2
              go_roundw
              case rel => exact ⟨j + 1, by omega, by go_num, by rw [e1, e2]; exact hown3, hob3, hF3⟩
              case measure => simp [intOf]; omega
            · have hje : j = W := by omega
              subst hje
              have hnl := numL_length j n
              rw [show (numL j n).take j = numL j n from List.take_of_length_le (by omega)] at hown2
              go_wp2
              go_roundw
              case rel => exact ⟨k + 1, by omega, by go_num, by rw [Hst.out, ← List.append_assoc]; exact hown2, hob2, hF2⟩
              case measure => simp [intOf]; omega
        · have hke : k = ns.length := by omega
          subst hke
          rw [List.take_length] at hown1
          go_wp2
          go_ret2
          exact ⟨_, rfl, hown1, hF1, hob1⟩
end Go.Proofs.Ytfmolbgfhchdkaa
