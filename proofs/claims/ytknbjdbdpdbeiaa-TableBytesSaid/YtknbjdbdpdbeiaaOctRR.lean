/-
  ref06: Decode, Rest.
-/
import Derived.Test.YtknbjdbdpdbeiaaOctQ
import Derived.Test.YtknbjdbdpdbeiaaOctM
import Derived.Test.YtknbjdbdpdbeiaaOctR
namespace Go.Proofs.Ytknbjdbdpdbeiaa
open Go.RowKit Go.Maps
attribute [local go_sem] len_str neq_str store_str cells_str
attribute [local go_sem high] equalSlot0 equalSlotR0 fieldKind

theorem own_bit (n : Nat) : decide ((n : Int) / 4 % 2 = 1) = decide (4 ≤ (n : Int) % 8) := by
  by_cases h : 4 ≤ (n : Int) % 8
  · rw [decide_eq_true h, decide_eq_true (by omega)]
  · rw [decide_eq_false h, decide_eq_false (by omega)]
set_option maxRecDepth 100000 in
theorem rEncode_no (s : Slt) (hr : rightS s = false) (w : World) : Calls Try.prog 69 #[.agg #[.int .i64 s.1, .int .i64 s.2.1, .bool s.2.2]] w fun e w' => e = .returned (.tuple #[strL [], .int .i64 60]) ∧ Fr [] w w' := by
  obtain ⟨p, q, r⟩ := s
  have key := fun w => rRight_calls p q r w
  rw [hr] at key
  have hfa := (Fr.refl [] w).alloc (.cells #[.int .i64 p, .int .i64 q, .bool r] 32)
  go_enter Try.func69, Try.ntmps69
  go_wp2_with fail
  refine (key _).mono ?_
  rintro e w1 ⟨rfl, hf1⟩
  go_wp2
  go_ret2
  exact ⟨rfl, hfa.trans0 hf1⟩
set_option maxRecDepth 100000 in
set_option maxHeartbeats 1600000 in
theorem rDecode_calls (l : List UInt8) (hl : l.length = 4) (w : World) : Calls Try.prog 67 #[strL l] w fun e w' => e = .returned (.tuple (if rightS (slD (valL l)) = true then #[slotV (slD (valL l)), .int .i64 0] else #[slotV zS, .int .i64 60])) ∧ Fr [] w w' := by
  have er : rdNum l 0 4 = ([], 0, valL l) := by
    unfold rdNum
    rw [if_neg (by simp), if_neg (by omega), List.drop_of_length_le (by omega), List.take_of_length_le (by omega)]
  have kN := fun X => ReadNum_calls 4 (by omega) l 0 X
  rw [er] at kN
  have hy : slY (slD (valL l)) = l := by
    unfold slY
    rw [slN_slD]
    have := numL_valL l
    rwa [hl] at this
  have hlt := valL_lt l
  rw [hl] at hlt
  have hlt : valL l < 4294967296 := hlt
  have Hs : Hid (slD (valL l) = ((valL l : Int) % 4, (valL l : Int) / 8, decide ((valL l : Int) / 4 % 2 = 1))) := hidIt (by rw [own_bit]; rfl)
  have kE := fun X h => rEncode_calls (slD (valL l)) h X
  have kF := fun X h => rEncode_no (slD (valL l)) h X
  rw [hy] at kE
  obtain ⟨ls, hls⟩ : ∃ ls, strL l = Value.string ls := ⟨_, rfl⟩
  obtain ⟨es, hes⟩ : ∃ es, strL [] = Value.string es := ⟨_, rfl⟩
  rw [hls, hes] at kN
  rw [hls] at kE
  rw [hls]
  have hB0 := Blk.new w [.int .i64 0, .int .i64 0, .bool false] 32
  cases hr : rightS (slD (valL l)) with
  | true =>
    have kE := fun X => kE X hr
    rw [Hs.out] at kE
    rw [if_pos rfl, Hs.out]
    clear kF hr Hs er hy hls hes
    generalize valL l = n at *
    go_enter Try.func67, Try.ntmps67
    go_wp2_with fail
    refine (kN _).mono ?_
    rintro e w1 ⟨rfl, hf1⟩
    go_wp2_with fail
    refine (kE _).mono ?_
    rintro e w2 ⟨rfl, hf2⟩
    have hfa := ((Fr.refl [] w1).alloc (.cells #[.string es, .int .i64 0] 101)).alloc (.cells #[.int .i64 ((n : Int) % 4), .int .i64 ((n : Int) / 8), .bool ((n : Int) / 4 % 2 == 1)] 32)
    have hf12 := hfa.trans0 hf2
    have hF := ((((Fr.refl [] w).alloc (.cells #[.int .i64 0, .int .i64 0, .bool false] 32)).trans0 hf1).trans0 hf12)
    have B2 := (hB0.fr0 hf1).fr0 hf12
    have B6 := (Blk.new (w1.alloc (.cells #[.string es, .int .i64 0] 101)) [.int .i64 ((n : Int) % 4), .int .i64 ((n : Int) / 8), .bool ((n : Int) / 4 % 2 == 1)] 32).fr0 hf2
    rw [World.size_alloc] at B6
    have c2 := B2.cell
    have f2 := B2.frozen
    have c6 := B6.cell
    have e2 := (((B2.setCell 0 (.int .i64 ((n : Int) % 4))).setCell 1 (.int .i64 ((n : Int) / 8))).setCell 2 (.bool ((n : Int) / 4 % 2 == 1))).cell
    go_wp2
    exact bodyPost_ret (v := .tuple #[.agg #[.int .i64 ((n : Int) % 4), .int .i64 ((n : Int) / 8), .bool ((n : Int) / 4 % 2 == 1)], .int .i64 0]) (by simp [results, Try.results67, go_sem, e2]) rfl ⟨rfl, hF.trans (Fr.set3 _ _ _ _ _) (by intro x hx; simp at hx; omega)⟩
  | false =>
    have kF := fun X => kF X hr
    rw [Hs.out] at kF
    rw [if_neg (by simp)]
    clear kE hr Hs er hy hls hes
    generalize valL l = n at *
    go_enter Try.func67, Try.ntmps67
    go_wp2_with fail
    refine (kN _).mono ?_
    rintro e w1 ⟨rfl, hf1⟩
    go_wp2_with fail
    refine (kF _).mono ?_
    rintro e w2 ⟨rfl, hf2⟩
    have hfa := ((Fr.refl [] w1).alloc (.cells #[.string es, .int .i64 0] 101)).alloc (.cells #[.int .i64 ((n : Int) % 4), .int .i64 ((n : Int) / 8), .bool ((n : Int) / 4 % 2 == 1)] 32)
    have hf12 := hfa.trans0 hf2
    have hF := ((((Fr.refl [] w).alloc (.cells #[.int .i64 0, .int .i64 0, .bool false] 32)).trans0 hf1).trans0 hf12)
    have B2 := (hB0.fr0 hf1).fr0 hf12
    have B6 := (Blk.new (w1.alloc (.cells #[.string es, .int .i64 0] 101)) [.int .i64 ((n : Int) % 4), .int .i64 ((n : Int) / 8), .bool ((n : Int) / 4 % 2 == 1)] 32).fr0 hf2
    rw [World.size_alloc] at B6
    have c2 := B2.cell
    have f2 := B2.frozen
    have c6 := B6.cell
    have e2 := (((B2.setCell 0 (.int .i64 0)).setCell 1 (.int .i64 0)).setCell 2 (.bool false)).cell
    go_wp2
    exact bodyPost_ret (v := .tuple #[slotV zS, .int .i64 60]) (by simp [results, Try.results67, go_sem, e2, zS]) rfl ⟨rfl, hF.trans (Fr.set3 _ _ _ _ _) (by intro x hx; simp at hx; omega)⟩
def rRestPost (w : World) (l : List UInt8) (e : Ending) (w' : World) : Prop :=
  ((∀ s ∈ restL l, rightS s = true) ∧ ∃ u, e = .returned (.tuple #[u, .int .i64 0]) ∧ w'.ownsRow w.heap.size 32 3 u (restL l).length ((restL l).flatMap slotC) ∧ Fr [] w w') ∨
  ((∃ s ∈ restL l, rightS s = false) ∧ e = .returned (.tuple #[.slice none 0 0, .int .i64 60]) ∧ Fr [] w w')
set_option maxRecDepth 100000 in
set_option maxHeartbeats 1600000 in
theorem rRest_calls (l : List UInt8) (m : Nat) (w : World) (hm : l.length = 4 * m) (hl : m ≤ 100000) : Calls Try.prog 54 #[strL l] w (rRestPost w l) := by
  have Hm := hidIt hm
  clear hm
  go_enter Try.func54, Try.ntmps54
  go_wp2_with fail
  go_loopw [0, 4] (fun s u wr => ∃ k : Nat, k ≤ m ∧ s = strL (l.drop (4 * k)) ∧ (∀ s ∈ (restL l).take k, rightS s = true) ∧ wr.ownsRow w.heap.size 32 3 u k (((restL l).take k).flatMap slotC) ∧ Fr [] w wr) (fun _ u _ => m - slLen u)
  case atStart => exact ⟨0, Nat.zero_le _, rfl, by simp, World.ownsRow_nil _ _ _ _, Fr.refl _ _⟩
  case round =>
    obtain ⟨k, hk, rfl, hrt, hown, hF⟩ := hrel
    obtain ⟨au, cu, rfl, _⟩ := Sl.of_owns hown
    have hlen : (l.drop (4 * k)).length = 4 * (m - k) := by have := Hm.out; simp; omega
    have hzr := hF.size
    by_cases hlt : k < m
    · have hpos : (0 : Int) < ((l.drop (4 * k)).length : Int) := by omega
      have h4 : ¬ ((l.drop (4 * k)).length : Int) < 4 := by omega
      have hto : ∀ X : World, (Instr.slice 9 (strL (l.drop (4 * k))) none (some (.int .i64 4)) none).run Try.prog X = .ok (strL ((l.drop (4 * k)).take 4)) X := fun X => to_str (l := l.drop (4 * k)) (n := 4) (by omega) X
      have hfrom : ∀ X : World, (Instr.slice 9 (strL (l.drop (4 * k))) (some (.int .i64 4)) none none).run Try.prog X = .ok (strL ((l.drop (4 * k)).drop 4)) X := fun X => from_str (l := l.drop (4 * k)) (n := 4) (by omega) X
      rw [List.drop_drop] at hfrom
      have kD := fun X => rDecode_calls ((l.drop (4 * k)).take 4) (by rw [List.length_take]; omega) X
      have Hs : Hid (slAt l k = slD (valL ((l.drop (4 * k)).take 4))) := hidIt rfl
      rw [← Hs.out] at kD
      have Hst := hidIt (take_restL (l := l) (k := k) (by have := Hm.out; omega))
      have Hmem : Hid (slAt l k ∈ restL l ∧ ∀ s ∈ (restL l).take (k + 1), s ∈ (restL l).take k ∨ s = slAt l k) := hidIt (by
        have h' : k < (restL l).length := by rw [restL_length]; have := Hm.out; omega
        have hg : (restL l)[k] = slAt l k := by simp [restL]
        refine ⟨by rw [← hg]; exact List.getElem_mem h', fun s hs => ?_⟩
        rw [List.take_succ_eq_append_getElem h', hg] at hs
        simpa using hs)
      clear Hs
      have Hk : Hid (4 * k + 4 = 4 * (k + 1)) := hidIt (by omega)
      rw [Hk.out] at hfrom
      generalize (l.drop (4 * k)).take 4 = F at *
      generalize hD2 : l.drop (4 * (k + 1)) = D2 at *
      replace hD2 := hidIt hD2
      generalize l.drop (4 * k) = D at *
      clear hlen
      cases hr : rightS (slAt l k) with
      | false =>
        rw [hr, if_neg (by simp)] at kD
        go_wp2_with fail
        refine (kD _).mono ?_
        rintro e w2 ⟨rfl, hf2⟩
        go_wp2
        go_ret2
        exact .inr ⟨⟨_, Hmem.out.1, hr⟩, rfl, (hF.trans0 hf2).alloc _⟩
      | true =>
        rw [hr, if_pos rfl] at kD
        have hrt5 : ∀ s ∈ (restL l).take (k + 1), rightS s = true := fun s hs => by
          rcases Hmem.out.2 s hs with h | rfl
          · exact hrt s h
          · exact hr
        generalize slAt l k = s at *
        clear Hmem
        go_wp2_with fail
        refine (kD _).mono ?_
        rintro e w2 ⟨rfl, hf2⟩
        have hF2 := hF.trans0 hf2
        have hown2 := owns_fr hown hf2 (by simp)
        have hob := own_base hown2
        have hz2 := hF2.size
        clear kD hown hF
        go_wp2_with (at_builtin; refine Hid.out ?_)
        refine hidIt ?_
        refine wpList_append1 27 32 _ 3 24 Try.underlying27 infoSlotR rfl (by decide) (by decide) rfl _ _ rfl w.heap.size (.slice au k cu) _ _ rfl ((hown2.alloc _).alloc _) (slotC s) rfl slot_one (w2.heap.size + 1) rfl (Blk.new' (by simp) _ _) (by omega) (by simp; omega) ?_
        intro v5 w5 hown5 hgrow5 hloc5
        rw [← Hst.out] at hown5
        have hF5 := ((hF2.alloc _).alloc _).grown hgrow5 (fun x hx => .inr (hob x hx))
        obtain ⟨a5, c5, rfl, _⟩ := Sl.of_owns hown5
        go_wp2
        go_roundw
        case rel => exact ⟨k + 1, by omega, by rw [hD2.out], hrt5, hown5, hF5⟩
        case measure => simp [slLen]; omega
    · have hke : k = m := by omega
      subst hke
      have hpos : ¬ (0 : Int) < ((l.drop (4 * k)).length : Int) := by omega
      have hall : (restL l).take k = restL l := List.take_of_length_le (by rw [restL_length]; have := Hm.out; omega)
      have hkl : Hid (k = (restL l).length) := hidIt (by rw [restL_length]; have := Hm.out; omega)
      rw [hall] at hrt hown
      clear hlen
      generalize l.drop (4 * k) = D at *
      go_wp2
      go_ret2
      refine .inl ⟨hrt, _, rfl, ?_, hF⟩
      rw [← hkl.out]
      exact hown
end Go.Proofs.Ytknbjdbdpdbeiaa
