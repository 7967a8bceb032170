/-
  slot.All: slots as bytes.
-/
import Derived.Test.YtknbjdbdpdbeiaaOctP
import Derived.Test.YtknbjdbdpdbeiaaTabW
namespace Go.Proofs.Ytknbjdbdpdbeiaa
open Go.RowKit Go.Maps
attribute [local go_sem high] equalSlot0 equalSlotR0 fieldKind

/-- a slot's number, its bytes -/
def slN (s : Slt) : Nat := (8 * s.2.1 + s.1 + (if s.2.2 then 4 else 0)).toNat
def slY (s : Slt) : List UInt8 := numL 4 (slN s)
theorem slY_length (s : Slt) : (slY s).length = 4 := numL_length _ _
theorem flat_slY_len : ∀ l : List Slt, (l.flatMap slY).length = l.length * 4
  | [] => by simp
  | s :: l => by rw [List.flatMap_cons, List.length_append, slY_length, flat_slY_len l, List.length_cons, Nat.add_mul]; omega
theorem right_bounds {p q : Int} {r : Bool} (h : rightS (p, q, r) = true) : ∃ a b : Nat, p = a ∧ q = b ∧ a ≤ 2 ∧ b < 512 := by
  unfold rightS at h
  split at h
  · rename_i h1
    simp only at h1
    simp at h
    exact ⟨1, q.toNat, by omega, by omega, by omega, by omega⟩
  · simp at h
    exact ⟨p.toNat, 0, by omega, by omega, by omega, by omega⟩
theorem take_flat_slY {l : List Slt} {k : Nat} (h : k < l.length) : (l.take (k + 1)).flatMap slY = (l.take k).flatMap slY ++ slY (l.getD k zS) := by
  have hg : l[k] = l.getD k zS := by rw [List.getD_eq_getElem?_getD, List.getElem?_eq_getElem h]; rfl
  rw [List.take_succ_eq_append_getElem h, hg, List.flatMap_append]
  simp
set_option maxRecDepth 100000 in
set_option maxHeartbeats 1600000 in
theorem sAll_calls (v : Value) (l : List Slt) (w : World) (hs : SlS w v l) (hr : ∀ s ∈ l, rightS s = true) (hl : l.length ≤ 100000) :
    Calls Try.prog 44 #[v] w fun e w' => ∃ u, e = .returned (.tuple #[u, .int .i64 0]) ∧ w'.ownsRow w.heap.size 5 1 u (l.flatMap slY).length ((l.flatMap slY).flatMap byC) ∧ Fr [] w w' := by
  obtain ⟨a, cap, rfl, hlc, hcm, _⟩ := hs.open
  go_enter Try.func44, Try.ntmps44
  go_wp2
  go_loopw [4, 10] (fun u i wr => ∃ k : Nat, k ≤ l.length ∧ i = .int .i64 k ∧ wr.ownsRow w.heap.size 5 1 u ((l.take k).flatMap slY).length (((l.take k).flatMap slY).flatMap byC) ∧ Fr [] w wr) (fun _ i _ => l.length - (intOf i).toNat)
  case atStart => exact ⟨0, Nat.zero_le _, rfl, World.ownsRow_nil _ _ _ _, Fr.refl _ _⟩
  case round =>
    obtain ⟨k, hk, rfl, hown, hF⟩ := hrel
    by_cases hlt : k < l.length
    · obtain ⟨b, off, rfl, hb, c0, c1, c2⟩ := SlS.at (hs.fr0 hF) hlt
      have Hst := hidIt (take_flat_slY hlt)
      have hrk : rightS (l.getD k zS) = true := right_getD hr k
      have hlen := flat_slY_len (l.take k)
      have htk : (l.take k).length = k := by simp; omega
      rw [htk] at hlen
      have hnb := own_base hown
      have hsz := hF.size
      generalize (l.take k).flatMap slY = pre at *
      have hsd : ∃ s, s = l.getD k zS := ⟨_, rfl⟩
      obtain ⟨s, hsd⟩ := hsd
      rw [← hsd] at c0 c1 c2 hrk Hst
      clear hsd
      obtain ⟨p, q, r⟩ := s
      simp only at c0 c1 c2
      have key := fun w => Right_calls p q r w
      rw [hrk] at key
      obtain ⟨pn, qn, rfl, rfl, hp2, hq2⟩ := right_bounds hrk
      have B6 := Blk.new wr [.int .i64 (pn : Int), .int .i64 (qn : Int), .bool r] 43
      have hFa := (Fr.refl [] wr).alloc (.cells #[.int .i64 (pn : Int), .int .i64 (qn : Int), .bool r] 43)
      go_wp2_with fail
      refine (key _).mono ?_
      rintro e w1 ⟨rfl, hf1⟩
      replace B6 := B6.fr0 hf1
      have hF1 := hFa.trans0 hf1
      have c6 := B6.cell
      have hz1 := hF1.size
      have hown1 := owns_fr hown hF1 (by simp)
      clear key hf1 hFa c0 c1 c2
      cases r with
      | true =>
        have e0 := hidIt (show (8 * (qn : Int) + (pn : Int) + 4) = ((8 * qn + pn + 4 : Nat) : Int) by omega)
        have hn := hidIt (show slN ((pn : Int), (qn : Int), true) = 8 * qn + pn + 4 by unfold slN; simp only [if_true]; omega)
        go_wp2_with fail
        rw [e0.out]
        refine (Put_calls 4 (by omega) [8 * qn + pn + 4] (by intro n hn; have := List.mem_singleton.1 hn; subst this; omega) w.heap.size _ pre w1.heap.size 1 _ (hown1.alloc _) (by simp; omega) (by simp; omega) (Blk.new w1 [_] _) (fun x hx e => by have := (hown1.lt x hx).2; omega)).mono ?_
        rintro e w2 ⟨v2, rfl, hown2, hf2, _⟩
        have hF2 := (hF.trans0 hF1).trans ((Fr.refl [] w1).alloc (.cells #[.int .i64 ((8 * qn + pn + 4 : Nat) : Int)] 3)) (fun x hx => by cases hx)
        replace hF2 := hF2.trans hf2 (fun x hx hl => by have := hnb x (by simpa using hx); omega)
        have e1 : ([8 * qn + pn + 4] : List Nat).flatMap (numL 4) = slY ((pn : Int), (qn : Int), true) := by unfold slY; rw [hn.out]; simp
        rw [e1, ← Hst.out] at hown2
        clear hn e0 e1 hown hown1 B6 c6
        go_wp2
        go_roundw
        case rel => exact ⟨k + 1, by omega, by go_num, hown2, hF2⟩
        case measure => simp [intOf]; omega
      | false =>
        have e0 := hidIt (show (8 * (qn : Int) + (pn : Int)) = ((8 * qn + pn : Nat) : Int) by omega)
        have hn := hidIt (show slN ((pn : Int), (qn : Int), false) = 8 * qn + pn by unfold slN; simp; omega)
        go_wp2_with fail
        rw [e0.out]
        refine (Put_calls 4 (by omega) [8 * qn + pn] (by intro n hn; have := List.mem_singleton.1 hn; subst this; omega) w.heap.size _ pre w1.heap.size 1 _ (hown1.alloc _) (by simp; omega) (by simp; omega) (Blk.new w1 [_] _) (fun x hx e => by have := (hown1.lt x hx).2; omega)).mono ?_
        rintro e w2 ⟨v2, rfl, hown2, hf2, _⟩
        have hF2 := (hF.trans0 hF1).trans ((Fr.refl [] w1).alloc (.cells #[.int .i64 ((8 * qn + pn : Nat) : Int)] 3)) (fun x hx => by cases hx)
        replace hF2 := hF2.trans hf2 (fun x hx hl => by have := hnb x (by simpa using hx); omega)
        have e1 : ([8 * qn + pn] : List Nat).flatMap (numL 4) = slY ((pn : Int), (qn : Int), false) := by unfold slY; rw [hn.out]; simp
        rw [e1, ← Hst.out] at hown2
        clear hn e0 e1 hown hown1 B6 c6
        go_wp2
        go_roundw
        case rel => exact ⟨k + 1, by omega, by go_num, hown2, hF2⟩
        case measure => simp [intOf]; omega
    · have Hk : Hid (k = l.length) := hidIt (by omega)
      go_wp2
      go_ret2
      rw [Hk.out, List.take_length] at hown
      exact ⟨_, rfl, hown, hF⟩
end Go.Proofs.Ytknbjdbdpdbeiaa
