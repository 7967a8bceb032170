/-
  The reference of layer 8 (and of 6: Same, Right): each function once.
-/
import Derived.Test.YtknbjdbdpdbeiaaTabW
import Derived.Test.YtknbjdbdpdbeiaaSlots
namespace Go.Proofs.Ytknbjdbdpdbeiaa
open Go.RowKit Go.Maps
attribute [local go_sem high] equalSlot0 equalSlotR0

set_option maxHeartbeats 400000 in
theorem rGet_calls (v : Value) (l : List Slt) (c : Int) (w : World) (h : SlS w v l) : Calls Try.prog 41 #[v, .int .i64 c] w fun e w' => e = .returned (slotV (tget l c)) ∧ Fr [] w w' := by
  obtain ⟨a, cap, rfl, _, _, _⟩ := h.open
  by_cases hc : 0 ≤ c ∧ c < l.length
  · obtain ⟨i, rfl⟩ := Int.eq_ofNat_of_zero_le hc.1
    have hi : i < l.length := by omega
    obtain ⟨b, off, rfl, hb, c0, c1, c2⟩ := SlS.at h hi
    have Hg : Hid (tget l i = l.getD i zS) := tget_nat l i
    generalize l.getD i zS = s at *
    clear hc h
    go_enter Try.func41, Try.ntmps41
    go_wp2
    exact bodyPost_ret (v := slotV s) (by simp [results, Try.results41, go_sem]) rfl ⟨by rw [Hg.out], (Fr.refl _ _).alloc _⟩
  · have Hg : Hid (tget l c = zS) := tget_out (by omega)
    clear h
    by_cases hc0 : c < 0
    · go_enter Try.func41, Try.ntmps41
      go_wp2
      exact bodyPost_ret (v := slotV zS) (by simp [results, Try.results41, go_sem, zS]) rfl ⟨by rw [Hg.out], (Fr.refl _ _).alloc _⟩
    · have hc1 : (l.length : Int) ≤ c := by omega
      go_enter Try.func41, Try.ntmps41
      go_wp2
      exact bodyPost_ret (v := slotV zS) (by simp [results, Try.results41, go_sem, zS]) rfl ⟨by rw [Hg.out], (Fr.refl _ _).alloc _⟩
set_option maxHeartbeats 400000 in
theorem rRight_calls (k h : Int) (o : Bool) (w : World) : Calls Try.prog 57 #[.agg #[.int .i64 k, .int .i64 h, .bool o]] w fun e w' => e = .returned (.bool (rightS (k, h, o))) ∧ Fr [] w w' := by
  go_enter Try.func57, Try.ntmps57
  go_wp2
  all_goals go_ret
  all_goals refine ⟨ret_bool ?_, (Fr.refl _ _).alloc _⟩
  all_goals (simp_all [rightS]; try omega)
set_option maxHeartbeats 400000 in
theorem rNew_no (n : Int) (w : World) (h : okSize n = false) : Calls Try.prog 11 #[.int .i64 n] w fun e w' => e = .returned (.tuple #[.slice none 0 0, .bool false]) ∧ w = w' := by
  have hn : n < 0 ∨ 256 < n := by simp [okSize] at h; omega
  clear h
  rcases hn with h | h
  · go_enter Try.func11, Try.ntmps11
    go_wp2
    go_ret2
    exact ⟨rfl, rfl⟩
  · have h0 : 0 ≤ n := by omega
    go_enter Try.func11, Try.ntmps11
    go_wp2
    go_ret2
    exact ⟨rfl, rfl⟩
theorem made_slots (n : Nat) : (madeCells #[.int .i64 0, .int .i64 0, .bool false] (n * 3)).toList = (List.replicate n zS).flatMap slotC := by
  have hm : ∀ i j, j < 3 → (#[Value.int .i64 0, .int .i64 0, .bool false] : Array Value)[(i * 3 + j) % 3]! = (slotC zS)[j]! := by
    intro i j hj
    have : (i * 3 + j) % 3 = j := by omega
    rw [this]
    match j, hj with
    | 0, _ => rfl
    | 1, _ => rfl
    | 2, _ => rfl
  apply List.ext_getElem
  · simp [madeCells, List.length_flatMap]
  · intro k h1 h2
    obtain ⟨i, j, hj, rfl⟩ : ∃ i j, j < 3 ∧ k = i * 3 + j := ⟨k / 3, k % 3, Nat.mod_lt _ (by omega), by omega⟩
    have hk : i * 3 + j < n * 3 := by simpa [madeCells] using h1
    have := flat_slot (List.replicate n zS) i j hj
    rw [List.getElem?_eq_getElem h2, List.getElem?_replicate, if_pos (by omega)] at this
    have h3 := hm i j hj
    simp only [madeCells, Array.getElem_toList, Array.getElem_map, Array.getElem_range]
    have h4 : (slotC zS)[j]? = some ((slotC zS)[j]!) := by
      match j, hj with
      | 0, _ => rfl
      | 1, _ => rfl
      | 2, _ => rfl
    simp only [Option.bind_some, h4, Option.some.injEq] at this
    rw [this]
    exact h3
theorem infoSlotR : (Try.prog.info? 32).map (fun i => (i.zero, i.size, i.bytes)) = some (some (.agg #[.int .i64 0, .int .i64 0, .bool false]), 3, 24) := by kernel_rfl
set_option maxRecDepth 100000 in
set_option maxHeartbeats 400000 in
theorem rNew_yes (n : Nat) (w : World) (h : n ≤ 256) : Calls Try.prog 11 #[.int .i64 (n : Int)] w fun e w' => ∃ v, e = .returned (.tuple #[v, .bool true]) ∧ w'.ownsRow w.heap.size 32 3 v n ((List.replicate n zS).flatMap slotC) ∧ Fr [] w w' := by
  obtain ⟨i0, hi, hz0, hz1, hz2⟩ := info_parts infoSlotR
  go_enter Try.func11, Try.ntmps11
  go_wp2_with (at_make; refine wpList_make_full _ rfl _ _ 27 rfl w.heap.size 32 i0 _ 3 Try.underlying27 hi hz0 hz1 _ _ _ _ n rfl rfl rfl rfl (by rw [hz2]; omega) (by unfold maxLen; omega) (Nat.le_refl _) ?_; intro w1 hown hg)
  go_ret2
  replace hown : w1.ownsRow _ _ _ _ _ (madeCells #[.int .i64 0, .int .i64 0, .bool false] (n * 3)).toList := hown
  rw [made_slots n] at hown
  exact ⟨_, rfl, hown, (Fr.refl _ _).grown hg (by simp)⟩
/-! ### Resize -/
def rResizePost (w : World) (r : List Slt × List Slt × Int) (e : Ending) (w' : World) : Prop :=
  ∃ v v2, e = .returned (.tuple #[v, v2, .int .i64 r.2.2]) ∧ SlS w' v r.1 ∧ SlS w' v2 r.2.1 ∧ Fr [] w w'
/-- what has been written when k slots have been gone through -/
def rsOut (l : List Slt) (n k : Nat) : List Slt := (l.take k).take n ++ List.replicate (n - k) zS
theorem rsOut_start (l : List Slt) (n : Nat) : rsOut l n 0 = List.replicate n zS := by simp [rsOut]
theorem rsOut_length {l : List Slt} {n k : Nat} (h : k ≤ l.length) : (rsOut l n k).length = n := by simp [rsOut]; omega
theorem rsOut_end (l : List Slt) (n : Nat) : rsOut l n l.length = l.take n ++ List.replicate (n - l.length) zS := by simp [rsOut]
theorem ext_getD' {l l' : List Slt} (h : l.length = l'.length) (hi : ∀ i, l.getD i zS = l'.getD i zS) : l = l' := by
  apply List.ext_getElem h
  intro i h1 h2
  have := hi i
  rw [List.getD_eq_getElem?_getD, List.getElem?_eq_getElem h1, List.getD_eq_getElem?_getD, List.getElem?_eq_getElem h2] at this
  exact this
theorem rsOut_getD {l : List Slt} {n k : Nat} (h : k ≤ l.length) (i : Nat) : (rsOut l n k).getD i zS = if i < n ∧ i < k then l.getD i zS else zS := by
  unfold rsOut
  simp only [List.getD_eq_getElem?_getD, List.getElem?_append, List.getElem?_take, List.getElem?_replicate, List.length_take]
  by_cases h1 : i < n ∧ i < k
  · rw [if_pos h1, if_pos (by omega), if_pos h1.1, if_pos h1.2]
  · rw [if_neg h1, if_neg (by omega)]
    split <;> rfl
theorem rsOut_set {l : List Slt} {n k : Nat} (h : k < l.length) (hn : k < n) : (rsOut l n k).set k (l.getD k zS) = rsOut l n (k + 1) := by
  apply ext_getD'
  · rw [List.length_set, rsOut_length (by omega), rsOut_length (by omega)]
  · intro i
    rw [getD_set _ _ _ _ (by rw [rsOut_length (by omega)]; exact hn), rsOut_getD (by omega), rsOut_getD (by omega)]
    by_cases hi : i = k
    · rw [if_pos hi, if_pos (by omega), hi]
    · rw [if_neg hi]
      by_cases hc : i < n ∧ i < k
      · rw [if_pos hc, if_pos (by omega)]
      · rw [if_neg hc, if_neg (by omega)]
theorem rsOut_same {l : List Slt} {n k : Nat} (h : k < l.length) (hn : n ≤ k) : rsOut l n k = rsOut l n (k + 1) := by
  apply ext_getD'
  · rw [rsOut_length (by omega), rsOut_length (by omega)]
  · intro i
    rw [rsOut_getD (by omega), rsOut_getD (by omega)]
    by_cases hc : i < n ∧ i < k
    · rw [if_pos hc, if_pos (by omega)]
    · rw [if_neg hc, if_neg (by omega)]
/-- what is gone so far -/
def rsGone (l : List Slt) (n k : Nat) : List Slt := ((l.take k).drop n).filter fun s => s.1 != 0
theorem rsGone_step {l : List Slt} {n k : Nat} (h : k < l.length) : rsGone l n (k + 1) = rsGone l n k ++ (if n ≤ k ∧ (l.getD k zS).1 != 0 then [l.getD k zS] else []) := by
  unfold rsGone
  have hg : l[k] = l.getD k zS := by rw [List.getD_eq_getElem?_getD, List.getElem?_eq_getElem h]; rfl
  rw [List.take_succ_eq_append_getElem h, hg]
  by_cases hn : n ≤ k
  · rw [List.drop_append_of_le_length (by simp; omega), List.filter_append]
    by_cases hb : ((l.getD k zS).1 != 0) = true
    · rw [if_pos ⟨hn, hb⟩, List.filter_cons, if_pos hb, List.filter_nil]
    · rw [if_neg (fun h => hb h.2), List.filter_cons, if_neg hb, List.filter_nil]
  · rw [if_neg (fun h => hn h.1), List.append_nil]
    congr 1
    rw [List.drop_eq_nil_of_le (by simp; omega), List.drop_eq_nil_of_le (by simp; omega)]
theorem rsGone_len (l : List Slt) (n k : Nat) : (rsGone l n k).length ≤ l.length := by
  unfold rsGone
  refine Nat.le_trans (List.length_filter_le _ _) ?_
  simp; omega
set_option maxHeartbeats 400000 in
theorem rResize_no (v : Value) (l : List Slt) (n : Int) (w : World) (h : SlS w v l) (hn : okSize n = false) : Calls Try.prog 34 #[v, .int .i64 n] w (rResizePost w (l, [], 1)) := by
  have hn : n < 0 ∨ 256 < n := by simp [okSize] at hn; omega
  rcases hn with hn | hn
  · go_enter Try.func34, Try.ntmps34
    go_wp2
    go_ret3
    exact ⟨v, _, rfl, h, Sl.nil w, Fr.refl _ _⟩
  · have h0 : 0 ≤ n := by omega
    go_enter Try.func34, Try.ntmps34
    go_wp2
    go_ret3
    exact ⟨v, _, rfl, h, Sl.nil w, Fr.refl _ _⟩
def rResizeInv (w : World) (l : List Slt) (n g : Nat) (v i : Value) (wr : World) : Prop :=
  ∃ k : Nat, k ≤ l.length ∧ i = .int .i64 k ∧ wr.ownsRow w.heap.size 32 3 (.slice (some ⟨g, 0, none⟩) n n) n ((rsOut l n k).flatMap slotC) ∧
    wr.ownsRow w.heap.size 32 3 v (rsGone l n k).length ((rsGone l n k).flatMap slotC) ∧ v.ownBlock ≠ some g ∧ Fr [] w wr
set_option maxRecDepth 100000 in
set_option maxHeartbeats 1600000 in
theorem rResize_yes (v : Value) (l : List Slt) (n : Nat) (w : World) (h : SlS w v l) (hl : l.length ≤ 256) (hn : n ≤ 256) :
    Calls Try.prog 34 #[v, .int .i64 (n : Int)] w (rResizePost w (l.take n ++ List.replicate (n - l.length) zS, rsGone l n l.length, 0)) := by
  obtain ⟨i0, hi, hz0, hz1, hz2⟩ := info_parts infoSlotR
  obtain ⟨a, cap, rfl, hlc, hcm, _⟩ := h.open
  unfold maxLen at hcm
  go_enter Try.func34, Try.ntmps34
  go_wp2_with (at_make; refine wpList_make_full _ rfl _ _ 27 rfl w.heap.size 32 i0 _ 3 Try.underlying27 hi hz0 hz1 _ _ _ _ n rfl rfl rfl rfl (by rw [hz2]; omega) (by unfold maxLen; omega) (Nat.le_refl _) ?_; intro w1 hown hg)
  replace hown : w1.ownsRow _ _ _ _ _ (madeCells #[.int .i64 0, .int .i64 0, .bool false] (n * 3)).toList := hown
  rw [made_slots n] at hown
  go_loopw [8, 9] (fun v i wr => rResizeInv w l n w.heap.size v i wr) (fun _ i _ => l.length - (intOf i).toNat)
  case atStart => exact ⟨0, Nat.zero_le _, rfl, by rw [rsOut_start]; exact hown, by simp [rsGone]; exact World.ownsRow_nil _ _ _ _, by simp [Value.ownBlock], (Fr.refl _ _).grown hg (by simp)⟩
  case round =>
    obtain ⟨k, hk, rfl, ho, hgn, hne, hF⟩ := hrel
    by_cases hlt : k < l.length
    · obtain ⟨b, off, rfl, hb, c0, c1, c2⟩ := SlS.at (h.fr0 hF) hlt
      have Hst := hidIt (rsGone_step (n := n) hlt)
      have Hset := fun hkn => hidIt (rsOut_set (n := n) hlt hkn)
      have Hsame := fun hkn => hidIt (rsOut_same (n := n) hlt hkn)
      have hgl := rsGone_len l n k
      generalize hs : l.getD k zS = s at *
      by_cases hkn : k < n
      · have Hset := Hset hkn
        obtain ⟨⟨d0, d1, d2⟩, fz⟩ := owns_at3 ho (i := k) (by rw [rsOut_length hk]; exact hkn)
        clear Hsame
        go_wp2
        go_roundw
        case rel =>
          refine ⟨k + 1, by omega, by go_num, ?_, ?_, hne, ?_⟩
          · have := owns_put3 ho (rsOut_length hk) k hkn s
            rw [Hset.out] at this
            exact this
          · rw [Hst.out, if_neg (by omega), List.append_nil]
            exact owns_fr hgn (Fr.set3' wr w.heap.size _ _ _ _ _ _) (fun x hx => by simp; intro e; subst e; exact hne hx)
          · exact hF.trans1 (Fr.set3' wr w.heap.size _ _ _ _ _ _) (Nat.le_refl _)
        case measure => simp [intOf]; omega
      · have hkn' : n ≤ k := by omega
        have hsame := (Hsame hkn').out
        rw [hsame] at ho
        clear Hsame Hset hkn hsame
        by_cases hz : (s.1 != 0) = true
        · have hnb := own_base hgn
          have hsz1 := hF.size
          go_wp2_with (at_builtin; refine wpList_append1 27 32 _ 3 24 Try.underlying27 infoSlotR rfl (by decide) (by decide) rfl _ _ rfl w.heap.size _ _ _ rfl (hgn.alloc _) (slotC s) rfl slot_one wr.heap.size rfl (Blk.new _ _ _) (by omega) (by simp; omega) ?_; intro v' w2 hown2 hgrow hloc)
          go_roundw
          case rel =>
            refine ⟨k + 1, by omega, by go_num, ?_, ?_, ?_, ?_⟩
            · exact owns_fr (ho.alloc _) (Fr.of_grown hgrow) (fun x hx => by simp [Value.ownBlock] at hx; subst hx; simp; exact fun e => hne e)
            · rw [Hst.out, if_pos ⟨hkn', hz⟩]
              simp only [List.length_append, List.length_singleton, List.flatMap_append, List.flatMap_cons, List.flatMap_nil, List.append_nil]
              exact hown2
            · have hgl2 := hown.lt w.heap.size rfl
              have hlg : w.heap.size < wr.heap.size := by have := (ho.lt w.heap.size rfl).2; exact this
              rcases hloc with e | e
              · rw [e]; exact hne
              · rw [e]; simp; omega
            · exact (hF.alloc _).grown hgrow (fun x hx => .inr (hnb x hx))
          case measure => simp [intOf]; omega
        · have hz' : (s.1 != 0) = false := by simpa using hz
          clear hz
          go_wp2
          go_roundw
          case rel =>
            refine ⟨k + 1, by omega, by go_num, ho, ?_, hne, hF⟩
            rw [Hst.out, if_neg (by simp [hz']), List.append_nil]
            exact hgn
          case measure => simp [intOf]; omega
    · have hge : l.length ≤ k := by omega
      have Hke : Hid (k = l.length) := hidIt (by omega)
      clear hlt
      go_wp2
      go_ret3
      rw [Hke.out] at ho hgn
      have hle := rsOut_length (l := l) (n := n) (k := l.length) (Nat.le_refl _)
      have h1 : SlS wr (.slice (some ⟨w.heap.size, 0, none⟩) n n) (rsOut l n l.length) := by
        refine SlF.of_owns (base := w.heap.size) (e := 32) (size := 3) ?_
        rw [hle]
        exact ho
      rw [rsOut_end] at h1
      exact ⟨_, u8, rfl, h1, SlF.of_owns hgn, hF⟩
theorem rResize_calls (v : Value) (l : List Slt) (n : Int) (w : World) (h : SlS w v l) (hl : l.length ≤ 256) : Calls Try.prog 34 #[v, .int .i64 n] w (rResizePost w (tResize l n)) := by
  by_cases hn : 0 ≤ n ∧ n ≤ 256
  · obtain ⟨m, rfl⟩ := Int.eq_ofNat_of_zero_le hn.1
    unfold tResize
    rw [if_pos hn]
    have := rResize_yes v l m w h hl (by omega)
    unfold rsGone at this
    rw [List.take_length] at this
    exact this
  · unfold tResize
    rw [if_neg hn]
    exact rResize_no v l n w h (by simp [okSize]; omega)
/-! ### Set -/
def rSetPost (w : World) (r : List Slt × Slt × Int) (e : Ending) (w' : World) : Prop :=
  ∃ v, e = .returned (.tuple #[v, slotV r.2.1, .int .i64 r.2.2]) ∧ SlS w' v r.1 ∧ Fr [] w w'
set_option maxRecDepth 100000 in
set_option maxHeartbeats 1600000 in
theorem rSet_yes (v : Value) (l : List Slt) (i : Nat) (k h : Int) (o : Bool) (w : World) (hs : SlS w v l) (hl : l.length ≤ 256) (hi : i < l.length) (hr : rightS (k, h, o) = true) :
    Calls Try.prog 33 #[v, .int .i64 (i : Int), .agg #[.int .i64 k, .int .i64 h, .bool o]] w (rSetPost w (l.set i (k, h, o), tget l i, 0)) := by
  obtain ⟨i0, hi0, hz0, hz1, hz2⟩ := info_parts infoSlotR
  obtain ⟨a, cap, rfl, hlc, hcm, _⟩ := hs.open
  have hlen3 := flat3_length l
  obtain ⟨b, off, rfl, hb, hnews⟩ := SlF.news hs (by intro e; rw [e] at hlen3; simp at hlen3; omega)
  unfold maxLen at hcm
  go_enter Try.func33, Try.ntmps33
  go_wp2_with fail
  refine (rRight_calls _ _ _ _).mono ?_
  rintro e w1 ⟨rfl, hf⟩
  rw [hr]
  have hF : Fr [] w w1 := (((Fr.refl _ w).alloc _).alloc _).trans0 hf
  have B5 : Blk w1 w.heap.size [.int .i64 k, .int .i64 h, .bool o] 32 := ((Blk.new w [_, _, _] _).alloc _).fr0 hf
  have B7 : Blk w1 (w.heap.size + 1) [.int .i64 0, .int .i64 0, .bool false] 32 := (Blk.new' (by simp) [_, _, _] _).fr0 hf
  have c5 := B5.cell
  have l5 := B5.lt
  replace hs := hs.fr0 hF
  obtain ⟨b', off', ha, hb1, hnews1⟩ := SlF.news hs (by intro e; rw [e] at hlen3; simp at hlen3; omega)
  cases ha
  have hsz1 := hf.size
  simp only [World.size_alloc] at hsz1
  clear hf hnews
  go_wp2_with (at_builtin; refine wpList_append_own _ rfl _ _ 27 rfl w1.heap.size 32 i0 _ 3 24 Try.underlying27 hi0 hz0 hz1 hz2 rfl (by decide) _ _ _ rfl (World.ownsRow_made w1 _ 0 (Nat.le_refl _) (by decide) rfl) ⟨b, off, none⟩ l.length cap (l.flatMap slotC) rfl hlen3 (news_fr hnews1 hb1 ((Fr.refl [] _).alloc _) (by simp)) (flat_one (fun _ => slot_one) l) (by unfold maxLen; omega) (by omega) (by simp) ?_; intro v' w2 hown2 hgrow _; refine Hid.out ?_)
  rw [Nat.zero_add, List.nil_append] at hown2
  obtain ⟨g, cap', rfl, hgb, hgc⟩ := owns_succ hown2 (by omega)
  have hf2 : Fr [] w1 w2 := ((Fr.refl [] w1).alloc _).grown hgrow (fun x hx => .inr (by cases hx; exact Nat.le_refl _))
  replace hF := hF.trans0 hf2
  replace B5 := B5.fr0 hf2
  have c5 := B5.cell
  have l5 := B5.lt
  have f5 := B5.frozen
  replace B7 := B7.fr0 hf2
  have c7 := B7.cell
  have l7 := B7.lt
  have f7 := B7.frozen
  replace hs := hs.fr0 hf2
  obtain ⟨⟨d0, d1, d2⟩, fz⟩ := owns_at3 hown2 hi
  obtain ⟨b2, off2, ha2, hb2, e0, e1, e2⟩ := SlS.at hs hi
  cases ha2
  have hgne : ¬ w.heap.size + 1 = g := by omega
  have Ht : Hid (tget l i = l.getD i zS) := tget_nat l i
  generalize l.getD i zS = si at *
  have hbne : ¬ g = b := by omega
  clear hf2 hgrow hnews1 hb1
  refine hidIt ?_
  go_wp2
  refine wp_region_still_tail 6 follows (by as_aux_lemma => kernel_rfl) ?_
  simp only [List.take_succ_cons, List.take_zero, List.drop_succ_cons, List.drop_zero]
  change wpStill _ _ (World.drew _) _ _ _
  iterate 6 still_step
  refine wpStill_nil ?_
  change wpList _ _ _ _ _ (World.drew _)
  go_wp2
  have hfa := Fr.set3' w2 g (i * 3) (i * 3 + 1) (i * 3 + 2) (.int .i64 k) (.int .i64 h) (.bool o)
  have hfb := Fr.set3 (((w2.setCell ⟨g, i * 3, none⟩ (.int .i64 k)).setCell ⟨g, i * 3 + 1, none⟩ (.int .i64 h)).setCell ⟨g, i * 3 + 2, none⟩ (.bool o)) (w.heap.size + 1) (.int .i64 si.1) (.int .i64 si.2.1) (.bool si.2.2)
  have hown3 := owns_fr (owns_put3 hown2 rfl i hi (k, h, o)) hfb (fun x hx => by cases hx; simp; omega)
  have hsl : SlS ((((((w2.setCell ⟨g, i * 3, none⟩ (.int .i64 k)).setCell ⟨g, i * 3 + 1, none⟩ (.int .i64 h)).setCell ⟨g, i * 3 + 2, none⟩ (.bool o)).setCell ⟨w.heap.size + 1, 0, none⟩ (.int .i64 si.1)).setCell ⟨w.heap.size + 1, 1, none⟩ (.int .i64 si.2.1)).setCell ⟨w.heap.size + 1, 2, none⟩ (.bool si.2.2)).drew (.slice (some ⟨g, 0, none⟩) l.length cap') (l.set i (k, h, o)) := by
    have hll : (l.set i (k, h, o)).length = l.length := by simp
    refine SlF.of_owns (base := w1.heap.size) (e := 32) (size := 3) ?_
    rw [hll]
    exact owns_drew hown3
  exact bodyPost_ret (v := .tuple #[.slice (some ⟨g, 0, none⟩) l.length cap', slotV si, .int .i64 0]) (by simp [results, Try.results33, go_sem, c7]) rfl ⟨_, by rw [Ht.out], hsl, ((hF.trans1 hfa (by omega)).trans1 hfb (by omega)).drew⟩
theorem getD_lt (l : List Slt) {i : Nat} (h : (l.length : Int) ≤ i) : l.getD i zS = zS := by
  rw [List.getD_eq_getElem?_getD, List.getElem?_eq_none (by omega)]; rfl
set_option maxHeartbeats 1600000 in
theorem rSet_no (v : Value) (l : List Slt) (c k h : Int) (o : Bool) (w : World) (hs : SlS w v l) (hn : ¬ (0 ≤ c ∧ c < l.length ∧ rightS (k, h, o) = true)) :
    Calls Try.prog 33 #[v, .int .i64 c, .agg #[.int .i64 k, .int .i64 h, .bool o]] w (rSetPost w (l, zS, 1)) := by
  obtain ⟨a, cap, rfl, _, _, _⟩ := hs.open
  by_cases h0 : c < 0
  · clear hn
    go_enter Try.func33, Try.ntmps33
    go_wp2
    exact bodyPost_ret (v := .tuple #[.slice a l.length cap, slotV zS, .int .i64 1]) (by simp [results, Try.results33, go_sem, zS]) rfl ⟨_, rfl, hs.fr0 (((Fr.refl _ _).alloc _).alloc _), (((Fr.refl _ _).alloc _).alloc _)⟩
  · by_cases h1 : (l.length : Int) ≤ c
    · clear hn
      have h0' : 0 ≤ c := by omega
      clear h0
      go_enter Try.func33, Try.ntmps33
      go_wp2
      exact bodyPost_ret (v := .tuple #[.slice a l.length cap, slotV zS, .int .i64 1]) (by simp [results, Try.results33, go_sem, zS]) rfl ⟨_, rfl, hs.fr0 (((Fr.refl _ _).alloc _).alloc _), (((Fr.refl _ _).alloc _).alloc _)⟩
    · have h2 : rightS (k, h, o) = false := by
        cases hr : rightS (k, h, o) with
        | false => rfl
        | true => exact absurd ⟨by omega, by omega, hr⟩ hn
      have h0' : 0 ≤ c := by omega
      have h1' : c < l.length := by omega
      clear h0 h1 hn
      go_enter Try.func33, Try.ntmps33
      go_wp2_with fail
      refine (rRight_calls _ _ _ _).mono ?_
      rintro e w1 ⟨rfl, hf⟩
      rw [h2]
      have hF : Fr [] w w1 := (((Fr.refl _ w).alloc _).alloc _).trans0 hf
      have B7 : Blk w1 (w.heap.size + 1) [.int .i64 0, .int .i64 0, .bool false] 32 := (Blk.new' (by simp) [_, _, _] _).fr0 hf
      have c7 := B7.cell
      have f7 := B7.frozen
      clear hf
      go_wp2
      have hfb := Fr.set3 w1 (w.heap.size + 1) (.int .i64 0) (.int .i64 0) (.bool false)
      exact bodyPost_ret (v := .tuple #[.slice a l.length cap, slotV zS, .int .i64 1]) (by simp [results, Try.results33, go_sem, zS, c7]) rfl ⟨_, rfl, hs.fr0 (hF.trans1 hfb (by omega)), hF.trans1 hfb (by omega)⟩
theorem rSet_calls (v : Value) (l : List Slt) (c k h : Int) (o : Bool) (w : World) (hs : SlS w v l) (hl : l.length ≤ 256) :
    Calls Try.prog 33 #[v, .int .i64 c, .agg #[.int .i64 k, .int .i64 h, .bool o]] w (rSetPost w (tSet l c (k, h, o))) := by
  by_cases hc : 0 ≤ c ∧ c < l.length ∧ rightS (k, h, o) = true
  · obtain ⟨n, rfl⟩ := Int.eq_ofNat_of_zero_le hc.1
    unfold tSet
    rw [if_pos hc]
    exact rSet_yes v l n k h o w hs hl (by omega) hc.2.2
  · unfold tSet
    rw [if_neg hc]
    exact rSet_no v l c k h o w hs hc
end Go.Proofs.Ytknbjdbdpdbeiaa
