/-
  The statements' own helpers: plain, all, does, alive.
-/
import Derived.Test.YtknbjdbdpdbeiaaRef08b
import Derived.Test.YtknbjdbdpdbeiaaTabW3
namespace Go.Proofs.Ytknbjdbdpdbeiaa
open Go.RowKit Go.Maps
attribute [local go_sem high] equalSlot0 equalSlotR0

theorem take_flat_succ {l : List Slt} {k : Nat} (h : k < l.length) : (l.take (k + 1)).flatMap slotC = (l.take k).flatMap slotC ++ slotC (l.getD k zS) := by
  have hg : l[k] = l.getD k zS := by rw [List.getD_eq_getElem?_getD, List.getElem?_eq_getElem h]; rfl
  rw [List.take_succ_eq_append_getElem h, hg, List.flatMap_append]
  simp
set_option maxRecDepth 100000 in
set_option maxHeartbeats 1600000 in
theorem plain_calls (v : Value) (l : List Slt) (w : World) (hs : SlS w v l) (hl : l.length ≤ 4294967296) :
    Calls Try.prog 24 #[v] w fun e w' => ∃ u, e = .returned u ∧ w'.ownsRow w.heap.size 32 3 u l.length (l.flatMap slotC) ∧ Fr [] w w' := by
  obtain ⟨a, cap, rfl, hlc, hcm, _⟩ := hs.open
  go_enter Try.func24, Try.ntmps24
  go_wp2
  go_loopw [3, 8] (fun u i wr => ∃ k : Nat, k ≤ l.length ∧ i = .int .i64 k ∧ wr.ownsRow w.heap.size 32 3 u k ((l.take k).flatMap slotC) ∧ Fr [] w wr) (fun _ i _ => l.length - (intOf i).toNat)
  case atStart => exact ⟨0, Nat.zero_le _, rfl, World.ownsRow_nil _ _ _ _, Fr.refl _ _⟩
  case round =>
    obtain ⟨k, hk, rfl, hown, hF⟩ := hrel
    by_cases hlt : k < l.length
    · obtain ⟨b, off, rfl, hb, c0, c1, c2⟩ := SlS.at (hs.fr0 hF) hlt
      have Hst := hidIt (take_flat_succ hlt)
      have hnb := own_base hown
      have hsz := hF.size
      generalize l.getD k zS = s at *
      go_wp2_with (at_builtin; refine wpList_append1 27 32 _ 3 24 Try.underlying27 infoSlotR rfl (by decide) (by decide) rfl _ _ rfl w.heap.size _ _ _ rfl ((hown.alloc _).alloc _) (slotC s) rfl slot_one (wr.heap.size + 1) rfl (Blk.new' (by simp) _ _) (by omega) (by simp; omega) ?_; intro v' w2 hown2 hgrow hloc)
      go_roundw
      case rel => exact ⟨k + 1, by omega, by go_num, by rw [Hst.out]; exact hown2, ((hF.alloc _).alloc _).grown hgrow (fun x hx => .inr (hnb x hx))⟩
      case measure => simp [intOf]; omega
    · have Hk : Hid (k = l.length) := hidIt (by omega)
      go_wp2
      go_ret
      rw [Hk.out, List.take_length] at hown
      exact ⟨u3, rfl, hown, hF⟩
set_option maxRecDepth 100000 in
set_option maxHeartbeats 1600000 in
theorem all_calls (tb mb : Nat) (l : List Slt) (w : World) (hT : TabW w tb mb l) :
    Calls Try.prog 16 #[.pointer (some ⟨tb, 0, none⟩)] w fun e w' => ∃ u, e = .returned u ∧ w'.ownsRow w.heap.size 32 3 u l.length (l.flatMap slotC) ∧ Fr [] w w' := by
  have hlen := hT.len
  go_enter Try.func16, Try.ntmps16
  go_wp2_with (go_at_call 20; refine (Len_calls _ _ _ _ hT).mono ?_; rintro e w' ⟨rfl, rfl⟩)
  go_loopw [3, 7] (fun u i wr => ∃ k : Nat, k ≤ l.length ∧ i = .int .i64 k ∧ wr.ownsRow w.heap.size 32 3 u k ((l.take k).flatMap slotC) ∧ Fr [] w wr) (fun _ i _ => l.length - (intOf i).toNat)
  case atStart => exact ⟨0, Nat.zero_le _, rfl, World.ownsRow_nil _ _ _ _, Fr.refl _ _⟩
  case round =>
    obtain ⟨k, hk, rfl, hown, hF⟩ := hrel
    by_cases hlt : k < l.length
    · have Hst := hidIt (take_flat_succ hlt)
      go_wp2_with fail
      refine (Get_calls tb mb l _ _ (hT.fr0 hF)).mono ?_
      rintro e w1 ⟨rfl, hf⟩
      rw [tget_nat]
      replace hown := owns_fr hown hf (by simp)
      replace hF := hF.trans0 hf
      have hnb := own_base hown
      have hsz := hF.size
      clear hf
      generalize l.getD k zS = s at *
      go_wp2_with (at_builtin; refine wpList_append1 27 32 _ 3 24 Try.underlying27 infoSlotR rfl (by decide) (by decide) rfl _ _ rfl w.heap.size _ _ _ rfl (hown.alloc _) (slotC s) rfl slot_one w1.heap.size rfl (Blk.new _ _ _) (by omega) (by simp; omega) ?_; intro v' w2 hown2 hgrow hloc)
      go_roundw
      case rel => exact ⟨k + 1, by omega, by go_num, by rw [Hst.out]; exact hown2, (hF.alloc _).grown hgrow (fun x hx => .inr (hnb x hx))⟩
      case measure => simp [intOf]; omega
    · have Hk : Hid (k = l.length) := hidIt (by omega)
      go_wp2
      go_ret
      rw [Hk.out, List.take_length] at hown
      exact ⟨u3, rfl, hown, hF⟩
theorem tResize_gone (l : List Slt) (n : Int) : (tResize l n).2.1.length ≤ l.length := by
  unfold tResize
  split
  · refine Nat.le_trans (List.length_filter_le _ _) ?_
    simp
  · simp
/-- what 'does' answers: the list of what is told, and the error -/
def doesPost (w : World) (tb mb : Nat) (r : List Slt × List Slt × Int) (e : Ending) (w' : World) : Prop :=
  ∃ v, e = .returned (.tuple #[v, .int .i64 r.2.2]) ∧ SlS w' v r.2.1 ∧ TabW w' tb mb r.1 ∧ Fr [tb, mb] w w'
set_option maxRecDepth 100000 in
set_option maxHeartbeats 1600000 in
theorem does_calls (tb mb : Nat) (l : List Slt) (q c k h : Int) (o : Bool) (w : World) (hT : TabW w tb mb l) :
    Calls Try.prog 14 #[.pointer (some ⟨tb, 0, none⟩), .agg #[.int .i64 q, .int .i64 c, .int .i64 k, .int .i64 h, .bool o]] w (doesPost w tb mb (tDo l (q, c, k, h, o))) := by
  by_cases h0 : q = 0
  · subst h0
    have Hd : Hid (tDo l (0, c, k, h, o) = ((tSet l c (k, h, o)).1, [(tSet l c (k, h, o)).2.1], (tSet l c (k, h, o)).2.2)) := rfl
    go_enter Try.func14, Try.ntmps14
    go_wp2_with fail
    refine (Set_calls tb mb l c k h o _ (hT.fr0 ((Fr.refl _ _).alloc _))).mono ?_
    rintro e w1 ⟨rfl, hT1, hf⟩
    have hF : Fr [tb, mb] w w1 := ((Fr.refl _ w).alloc _).trans hf (by simp)
    clear hf
    generalize tSet l c (k, h, o) = r at *
    obtain ⟨r1, r2, r3⟩ := r
    simp only at *
    go_wp2
    go_ret2
    rw [Hd.out]
    exact ⟨.slice (some ⟨w1.heap.size + 1, 0, none⟩) 1 1, rfl, SlF.one (t := 32) (Blk.new' (by simp) (slotC r2) _), hT1.fr0 (((Fr.refl _ _).alloc _).alloc _), (hF.alloc _).alloc _⟩
  · by_cases h1 : q = 1
    · subst h1
      have Hd : Hid (tDo l (1, c, k, h, o) = tResize l c) := rfl
      go_enter Try.func14, Try.ntmps14
      go_wp2_with fail
      refine (Resize_calls tb mb l c _ (hT.fr0 ((Fr.refl _ _).alloc _))).mono ?_
      rintro e w1 ⟨u, rfl, hown, hT1, hf⟩
      have hF : Fr [tb, mb] w w1 := ((Fr.refl _ w).alloc _).trans hf (by simp)
      clear hf
      have hgl : (tResize l c).2.1.length ≤ 4294967296 := by have := tResize_gone l c; have := hT.len; omega
      go_wp2_with fail
      refine (plain_calls u _ _ (SlF.of_owns hown) hgl).mono ?_
      rintro e w2 ⟨u2, rfl, hown2, hf⟩
      go_wp2
      go_ret2
      rw [Hd.out]
      exact ⟨u2, rfl, SlF.of_owns hown2, hT1.fr0 hf, hF.trans0 hf⟩
    · have Hd : Hid (tDo l (q, c, k, h, o) = (l, [], 0)) := hidIt (by unfold tDo; rw [if_neg h0, if_neg h1])
      have b0 : (q == 0) = false := by simpa using h0
      have b1 : (q == 1) = false := by simpa using h1
      clear h0 h1
      go_enter Try.func14, Try.ntmps14
      go_wp2
      go_ret2
      rw [Hd.out]
      exact ⟨_, rfl, Sl.nil _, hT.fr0 ((Fr.refl _ _).alloc _), (Fr.refl _ _).alloc _⟩
/-! ### alive -/
def l20 : List Slt := List.replicate 20 zS
def l20a : List Slt := l20.set 17 (2, 0, false)
def l17 : List Slt := List.replicate 17 zS
theorem alive_set : tSet l20 17 (2, 0, false) = (l20a, (0, 0, false), 0) := by decide
theorem alive_resize : tResize l20a 17 = (l17, [(2, 0, false)], 0) := by decide
theorem alive_groups : groups l20a = 1 := by decide
theorem alive_groups0 : groups l17 = 0 := by decide
theorem alive_get : tget l20a 17 = (2, 0, false) := by decide
theorem alive_get0 : tget l20a 16 = (0, 0, false) := by decide
theorem sEq_2 : sEq (2, 0, false) (2, 0, false) = true := by decide
theorem sEq_0 : sEq (0, 0, false) (0, 0, false) = true := by decide
set_option maxRecDepth 100000 in
set_option maxHeartbeats 1600000 in
theorem alive_calls (w : World) : Calls Try.prog 12 #[] w fun e w' => e = .returned (.bool true) ∧ Fr [] w w' := by
  have e2 := sEq_2
  have e0 := sEq_0
  go_enter Try.func12, Try.ntmps12
  go_wp2_with fail
  refine (New_yes 20 _ (by decide)).mono ?_
  rintro e w1 ⟨tb, mb, rfl, ht, hm, hT, hF⟩
  replace hT : TabW w1 tb mb l20 := hT
  go_wp2_with fail
  have B3 : Blk (w1.alloc (.cells #[.int .i64 2, .int .i64 0, .bool false] 43)) w1.heap.size [.int .i64 2, .int .i64 0, .bool false] 43 := Blk.new _ [_, _, _] _
  refine (Set_calls tb mb l20 17 2 0 false _ (hT.fr0 ((Fr.refl _ _).alloc _))).mono ?_
  rintro e w2 h2
  rw [alive_set] at h2
  obtain ⟨rfl, hT2, hf⟩ := h2
  have hlt2 := hT.lt
  replace B3 := B3.fr hf (by simp; omega)
  replace hF := (hF.alloc _).trans hf (fun x hx hl => by simp at hx; omega)
  have c3 := B3.cell
  have l3 := B3.lt
  have hs12 := B3.lt
  clear hf hT
  go_wp2_with (go_at_call 17; refine (Groups_calls tb mb l20a _ (hT2.fr0 ((Fr.refl _ _).alloc _))).mono ?_; rintro e w' ⟨rfl, rfl⟩; rw [alive_groups]; refine Hid.out ?_)
  have B4 : Blk (w2.alloc (.cells #[.int .i64 0, .int .i64 0, .bool false] 43)) w2.heap.size [.int .i64 0, .int .i64 0, .bool false] 43 := Blk.new _ [_, _, _] _
  refine hidIt ?_
  go_wp2_with fail
  refine (Get_calls tb mb l20a _ _ (hT2.fr0 ((Fr.refl _ _).alloc _))).mono ?_
  rintro e w3 ⟨rfl, hf⟩
  rw [alive_get]
  replace hT2 := hT2.fr0 (((Fr.refl _ _).alloc _).trans0 hf)
  replace hF := (hF.alloc _).trans0 hf
  replace B3 := (B3.alloc _).fr0 hf
  replace B4 := B4.fr0 hf
  clear hf c3 l3
  go_wp2_with fail
  refine (Get_calls tb mb l20a _ _ hT2).mono ?_
  rintro e w4 ⟨rfl, hf⟩
  rw [alive_get0]
  replace hT2 := hT2.fr0 hf
  replace B3 := B3.fr0 hf
  have c3 := B3.cell
  have l3 := B3.lt
  have f3 := B3.frozen
  replace B4 := B4.fr0 hf
  have c4 := B4.cell
  have l4 := B4.lt
  have f4 := B4.frozen
  replace hF := hF.trans0 hf
  clear hf
  go_wp2_with fail
  have B7 : Blk ((w4.alloc (.cells #[.int .i64 2, .int .i64 0, .bool false] 43)).alloc (.cells #[.int .i64 0, .int .i64 0, .bool false] 43)) w4.heap.size [.int .i64 2, .int .i64 0, .bool false] 43 := (Blk.new _ [_, _, _] _).alloc _
  have B8 : Blk ((w4.alloc (.cells #[.int .i64 2, .int .i64 0, .bool false] 43)).alloc (.cells #[.int .i64 0, .int .i64 0, .bool false] 43)) (w4.heap.size + 1) [.int .i64 0, .int .i64 0, .bool false] 43 := Blk.new' (by simp) [_, _, _] _
  replace hT2 := hT2.fr0 (((Fr.refl _ _).alloc (.cells #[.int .i64 2, .int .i64 0, .bool false] 43)).alloc (.cells #[.int .i64 0, .int .i64 0, .bool false] 43))
  have hlt4 := hT2.lt
  simp only [World.size_alloc] at hlt4
  refine (Resize_calls tb mb l20a 17 _ hT2).mono ?_
  rintro e w5 h5
  rw [alive_resize] at h5
  obtain ⟨u, rfl, hown, hT5, hf⟩ := h5
  obtain ⟨g, cap, rfl, _, _⟩ := owns_succ hown (by decide)
  replace hF := ((hF.alloc _).alloc _).trans hf (fun x hx hl => by simp at hx; omega)
  replace B3 := ((B3.alloc _).alloc _).fr hf (by simp; omega)
  replace B4 := ((B4.alloc _).alloc _).fr hf (by simp; omega)
  replace B7 := B7.fr hf (by simp; omega)
  replace B8 := B8.fr hf (by simp; omega)
  have c3 := B3.cell
  have c4 := B4.cell
  have c7 := B7.cell
  have c8 := B8.cell
  clear hf
  go_wp2_with (go_at_call 17; refine (Groups_calls tb mb l17 _ hT5).mono ?_; rintro e w' ⟨rfl, rfl⟩; rw [alive_groups0])
  go_ret
  exact ⟨rfl, hF⟩
/-- what is done to a table is not seen in a slice of slots: no block is both -/
theorem SlS.frT {w w' : World} {u : Value} {l l' : List Slt} {tb mb : Nat} (hs : SlS w u l) (hT : TabW w tb mb l') (hf : Fr [tb, mb] w w') : SlS w' u l := by
  obtain ⟨a, cap, rfl, h1, h2, hc⟩ := hs
  refine ⟨a, cap, rfl, h1, h2, ?_⟩
  rcases hc with he | ⟨b, off, rfl, hb, hc⟩
  · exact .inl he
  · cases l with
    | nil => exact .inl rfl
    | cons s l =>
      have e0 : w.cell? ⟨b, off + 0, none⟩ = some (.int .i64 s.1) := hc 0 _ rfl
      have e1 : w.cell? ⟨b, off + 1, none⟩ = some (.int .i64 s.2.1) := hc 1 _ rfl
      refine .inr ⟨b, off, rfl, Nat.lt_of_lt_of_le hb hf.size, fun j x hx => (World.cell?_of_block (hf.block b hb ?_)).trans (hc j x hx)⟩
      simp only [List.mem_cons, List.not_mem_nil, or_false, not_or]
      constructor
      · rintro rfl
        rw [hT.blk.cell] at e1
        match off, e1 with
        | 0, e1 => cases e1
        | n + 1, e1 => simp at e1
      · rintro rfl
        obtain ⟨es, c, hm, _⟩ := hT.map
        simp [World.cell?, mapAt_some.1 hm] at e0
end Go.Proofs.Ytknbjdbdpdbeiaa
