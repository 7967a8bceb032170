/-
  Package table: Resize.
-/
import Derived.Test.YtknbjdbdpdbeiaaTabW2
import Derived.Test.YtknbjdbdpdbeiaaSlots
namespace Go.Proofs.Ytknbjdbdpdbeiaa
open Go.RowKit Go.Maps
attribute [local go_sem] mapAt_alloc mapAt_setCell mapAt_drew mapAt_drewN
attribute [local go_sem high] equalSlot0 equalSlotR0

/-- the slots with those from n to k struck -/
def tz (l : List Slt) (n k : Nat) : List Slt := l.take n ++ List.replicate (k - n) zS ++ l.drop k
theorem tz_length {l : List Slt} {n k : Nat} (h1 : n ≤ k) (h2 : k ≤ l.length) : (tz l n k).length = l.length := by
  simp [tz]; omega
theorem tz_start (l : List Slt) (n : Nat) : tz l n n = l := by simp [tz]
theorem tz_getD {l : List Slt} {n k : Nat} (h1 : n ≤ k) (h2 : k ≤ l.length) (i : Nat) : (tz l n k).getD i zS = if n ≤ i ∧ i < k then zS else l.getD i zS := by
  unfold tz
  simp only [List.getD_eq_getElem?_getD, List.getElem?_append, List.length_append, List.length_take, List.length_replicate, List.getElem?_take, List.getElem?_replicate, List.getElem?_drop]
  by_cases ha : i < n
  · rw [if_pos (by omega), if_pos (by omega), if_pos ha, if_neg (by omega)]
  · by_cases hb : i < k
    · rw [if_pos (by omega), if_neg (by omega), if_pos (by omega), if_pos (by omega)]; rfl
    · rw [if_neg (by omega), if_neg (by omega)]
      congr 2
      omega
theorem ext_getD {l l' : List Slt} (h : l.length = l'.length) (hi : ∀ i, l.getD i zS = l'.getD i zS) : l = l' := by
  apply List.ext_getElem h
  intro i h1 h2
  have := hi i
  rw [List.getD_eq_getElem?_getD, List.getElem?_eq_getElem h1, List.getD_eq_getElem?_getD, List.getElem?_eq_getElem h2] at this
  exact this
theorem tz_set {l : List Slt} {n k : Nat} (h1 : n ≤ k) (h2 : k < l.length) : (tz l n k).set k zS = tz l n (k + 1) := by
  apply ext_getD
  · rw [List.length_set, tz_length h1 (by omega), tz_length (by omega) (by omega)]
  · intro i
    rw [getD_set _ _ _ _ (by rw [tz_length h1 (by omega)]; exact h2), tz_getD h1 (by omega), tz_getD (by omega) (by omega)]
    by_cases hi : i = k
    · rw [if_pos hi, if_pos (by omega)]
    · rw [if_neg hi]
      by_cases hc : n ≤ i ∧ i < k
      · rw [if_pos hc, if_pos (by omega)]
      · rw [if_neg hc, if_neg (by omega)]
theorem tz_hole {l : List Slt} {n k : Nat} (h1 : n ≤ k) (h2 : k < l.length) (h0 : l.getD k zS = zS) : tz l n k = tz l n (k + 1) := by
  rw [← tz_set h1 h2]
  apply ext_getD (by simp)
  intro i
  rw [getD_set _ _ _ _ (by rw [tz_length h1 (by omega)]; exact h2)]
  by_cases hi : i = k
  · rw [if_pos hi, hi, tz_getD h1 (by omega), if_neg (by omega), h0]
  · rw [if_neg hi]
/-- what is gone, up to k -/
def gone (l : List Slt) (n k : Nat) : List Slt := ((l.drop n).take (k - n)).filter fun s => s.1 != 0
theorem gone_start (l : List Slt) (n : Nat) : gone l n n = [] := by simp [gone]
theorem gone_step {l : List Slt} {n k : Nat} (h1 : n ≤ k) (h2 : k < l.length) : gone l n (k + 1) = gone l n k ++ (if (l.getD k zS).1 != 0 then [l.getD k zS] else []) := by
  unfold gone
  have e : k + 1 - n = (k - n) + 1 := by omega
  have hlt : k - n < (l.drop n).length := by simp; omega
  rw [e, List.take_succ_eq_append_getElem hlt, List.filter_append]
  have hg : (l.drop n)[k - n] = l.getD k zS := by
    rw [List.getElem_drop, List.getD_eq_getElem?_getD, List.getElem?_eq_getElem h2]
    have : n + (k - n) = k := by omega
    simp [this]
  rw [hg]
  by_cases hb : ((l.getD k zS).1 != 0) = true
  · simp only [List.filter_cons, hb, if_true, List.filter_nil]
  · simp only [List.filter_cons, hb, List.filter_nil, if_false, Bool.false_eq_true]
theorem gone_len {l : List Slt} {n k : Nat} : (gone l n k).length ≤ l.length := by
  unfold gone
  refine Nat.le_trans (List.length_filter_le _ _) ?_
  simp; omega
theorem gone_end {l : List Slt} {n : Nat} : gone l n l.length = (l.drop n).filter fun s => s.1 != 0 := by
  unfold gone
  rw [List.take_of_length_le (by simp)]

theorem tabM_congr {l l' : List Slt} (h : ∀ i, l.getD i zS = l'.getD i zS) : tabM l = tabM l' := by
  have hg : ∀ k, grp l k = grp l' k := fun k => by
    unfold grp
    apply List.map_congr_left
    intro i _
    exact h _
  funext x
  cases x with
  | int q k =>
    cases q with
    | i64 => rw [tabM_int, tabM_int, hg]; unfold keptG; rw [hg]
    | _ => rfl
  | _ => rfl
/-- the size is set, the slots are the same -/
theorem TabW_size {w : World} {tb mb : Nat} {l : List Slt} (hT : TabW w tb mb l) {l' : List Slt} (h : ∀ i, l.getD i zS = l'.getD i zS) (hl : l'.length ≤ 256) (hr : ∀ s ∈ l', rightS s = true) :
    TabW (w.setCell ⟨tb, 0, none⟩ (.int .i64 l'.length)) tb mb l' := by
  obtain ⟨es, clock, hm, hi⟩ := hT.map
  refine ⟨hT.blk.setCell 0 _, hl, hr, es, clock, ?_, ?_⟩
  · rw [mapAt_setCell]; exact hm
  · rw [← tabM_congr h]; exact hi

def ResizePost (w : World) (tb mb : Nat) (r : List Slt × List Slt × Int) (e : Ending) (w' : World) : Prop :=
  ∃ v, e = .returned (.tuple #[v, .int .i64 r.2.2]) ∧ w'.ownsRow w.heap.size 43 3 v r.2.1.length (r.2.1.flatMap slotC) ∧ TabW w' tb mb r.1 ∧ Fr [tb, mb] w w'
set_option maxHeartbeats 800000 in
theorem Resize_no (tb mb : Nat) (l : List Slt) (n : Int) (w : World) (hT : TabW w tb mb l) (hn : okSize n = false) :
    Calls Try.prog 22 #[.pointer (some ⟨tb, 0, none⟩), .int .i64 n] w (ResizePost w tb mb (l, [], 1)) := by
  go_enter Try.func22, Try.ntmps22
  go_wp2_with (go_at_call 32; refine (right_calls _ _).mono ?_; rintro e w' ⟨rfl, rfl⟩)
  go_ret2
  exact ⟨_, rfl, World.ownsRow_nil _ _ _ _, hT, Fr.refl _ _⟩
/-- the relation of Resize's loop -/
def ResizeInv (w : World) (tb mb : Nat) (l : List Slt) (n : Nat) (v i : Value) (wr : World) : Prop :=
  ∃ k : Nat, n ≤ k ∧ k ≤ l.length ∧ i = .int .i64 k ∧ TabW wr tb mb (tz l n k) ∧ wr.ownsRow w.heap.size 43 3 v (gone l n k).length ((gone l n k).flatMap slotC) ∧ Fr [mb] w wr
set_option maxRecDepth 100000 in
set_option maxHeartbeats 1600000 in
theorem Resize_cut (tb mb : Nat) (l : List Slt) (n : Nat) (w : World) (hT : TabW w tb mb l) (hn : n ≤ l.length) :
    Calls Try.prog 22 #[.pointer (some ⟨tb, 0, none⟩), .int .i64 (n : Int)] w (ResizePost w tb mb (l.take n, gone l n l.length, 0)) := by
  have hok : okSize (n : Int) = true := by have := hT.len; simp [okSize]; omega
  have hlen := hT.len
  obtain ⟨i0, hi, hz0, hz1, hz2⟩ := info_parts infoSlot
  have hlt0 := hT.lt.1
  have hlm0 := hT.lt.2
  go_enter Try.func22, Try.ntmps22
  go_wp2_with (go_at_call 32; refine (right_calls _ _).mono ?_; rintro e w' ⟨rfl, rfl⟩)
  go_loopw [6, 7] (fun v i wr => ResizeInv w tb mb l n v i wr) (fun _ i _ => l.length - (intOf i).toNat)
  case atStart => exact ⟨n, Nat.le_refl _, hn, rfl, by rw [tz_start]; exact hT, by rw [gone_start]; exact World.ownsRow_nil _ _ _ _, Fr.refl _ _⟩
  case round =>
    obtain ⟨k, hk1, hk2, rfl, hTk, hown, hF⟩ := hrel
    have htl : (tz l n k).length = l.length := tz_length hk1 hk2
    have c0 : wr.cell? ⟨tb, 0, none⟩ = some (.int .i64 l.length) := by have := hTk.blk.cell 0; rw [htl] at this; exact this
    by_cases hlt : k < l.length
    · have hg : tget (tz l n k) (k : Int) = l.getD k zS := by rw [tget_nat, tz_getD hk1 hk2, if_neg (by omega)]
      generalize hs : l.getD k zS = s at *
      go_wp2_with fail
      refine (Get_calls tb mb (tz l n k) _ _ hTk).mono ?_
      rintro e w1 ⟨rfl, hf⟩
      rw [hg]
      replace hTk := hTk.fr0 hf
      replace hF := hF.trans0 hf
      replace hown := owns_fr hown hf (by simp)
      clear hf
      have hgl := gone_len (l := l) (n := n) (k := k)
      have hgs := gone_step (n := n) hk1 hlt
      rw [hs] at hgs
      have hz1s : w.heap.size ≤ w1.heap.size := hF.size
      by_cases hz : (s.1 != 0) = true
      · rw [if_pos hz] at hgs
        have Hgs := hidIt hgs
        clear hgs
        go_wp2_with (at_builtin; refine wpList_append_own _ rfl _ _ 49 rfl w.heap.size 43 i0 _ 3 24 Try.underlying49 hi hz0 hz1 hz2 rfl (by decide) _ _ _ rfl ((hown.alloc _).alloc _) ⟨w1.heap.size + 1, 0, none⟩ 1 1 (slotC s) rfl rfl (cells_new (by simp) _ _) slot_one (by unfold maxLen; omega) (by omega) (by simp; omega) ?_; intro v' w2 hown2 hgrow _)
        have hnb := own_base hown
        replace hTk := (hTk.fr0 (((Fr.refl _ w1).alloc _).alloc _)).fr (Fr.of_grown hgrow) (own_notin hown hlt0) (own_notin hown hlm0)
        replace hF := ((hF.alloc _).alloc _).grown hgrow (fun x hx => .inr (hnb x hx))
        refine (put_calls tb mb (tz l n k) k 0 0 false _ hTk (by rw [htl]; exact hlt) rfl).mono ?_
        rintro e w3 ⟨⟨vp, rfl⟩, hT3, hf3⟩
        go_wp2
        go_roundw
        case rel =>
          refine ⟨k + 1, by omega, by omega, by go_num, ?_, ?_, hF.trans' hf3⟩
          · rw [← tz_set hk1 hlt]; exact hT3
          · rw [Hgs.out]
            simp only [List.length_append, List.length_singleton, List.flatMap_append, List.flatMap_cons, List.flatMap_nil, List.append_nil]
            exact owns_fr hown2 hf3 (fun x hx => by have := own_base hown2 x hx; simp; omega)
        case measure => simp [intOf]; omega
      · have hz' : (s.1 != 0) = false := by simpa using hz
        rw [if_neg hz, List.append_nil] at hgs
        have Hgs := hidIt hgs
        clear hgs hz
        go_wp2
        go_roundw
        case rel =>
          have hs0 : s = zS := right_hole (by have := right_getD hT.right k; rw [hs] at this; exact this) (by simpa using hz')
          refine ⟨k + 1, by omega, by omega, by go_num, ?_, ?_, hF.alloc _⟩
          · rw [← tz_hole hk1 hlt (by rw [hs, hs0])]; exact hTk.fr0 ((Fr.refl _ _).alloc _)
          · rw [Hgs.out]
            exact hown.alloc _
        case measure => simp [intOf]; omega
    · have Hke : Hid (k = l.length) := hidIt (by omega)
      have hge : l.length ≤ k := by omega
      clear hlt htl
      have c1 := hTk.blk.frozen
      go_wp2
      go_ret2
      refine ⟨u6, rfl, ?_, ?_, ?_⟩
      · have := owns_setCell hown (a := ⟨tb, 0, none⟩) hlt0 (.int .i64 n)
        rw [Hke.out] at this
        exact this
      · have e : (n : Int) = ((l.take n).length : Int) := by rw [List.length_take]; omega
        rw [e]
        refine TabW_size hTk (fun i => ?_) (by rw [List.length_take]; omega) (fun x hx => hT.right x (List.mem_of_mem_take hx))
        rw [tz_getD hk1 hk2]
        simp only [List.getD_eq_getElem?_getD, List.getElem?_take]
        by_cases hin : i < n
        · rw [if_neg (by omega), if_pos hin]
        · rw [if_neg hin]
          by_cases hik : i < k
          · rw [if_pos (by omega)]; rfl
          · rw [if_neg (by omega), List.getElem?_eq_none (by omega)]
      · exact (hF.mono (by simp)).setCell (.inl (by simp)) _
set_option maxRecDepth 100000 in
set_option maxHeartbeats 800000 in
theorem Resize_more (tb mb : Nat) (l : List Slt) (n : Nat) (w : World) (hT : TabW w tb mb l) (hn : l.length ≤ n) (hn2 : n ≤ 256) :
    Calls Try.prog 22 #[.pointer (some ⟨tb, 0, none⟩), .int .i64 (n : Int)] w (ResizePost w tb mb (l ++ List.replicate (n - l.length) zS, [], 0)) := by
  have hok : okSize (n : Int) = true := by simp [okSize]; omega
  have c0 : w.cell? ⟨tb, 0, none⟩ = some (.int .i64 l.length) := hT.blk.cell 0
  have c1 := hT.blk.frozen
  go_enter Try.func22, Try.ntmps22
  go_wp2_with (go_at_call 32; refine (right_calls _ _).mono ?_; rintro e w' ⟨rfl, rfl⟩)
  refine wp_loop_rounds 1 ?_
  rw [rounds_succ]
  go_wp2
  go_ret2
  refine ⟨_, rfl, World.ownsRow_nil _ _ _ _, ?_, (Fr.refl _ _).setCell (.inl (by simp)) _⟩
  have e : (n : Int) = ((l ++ List.replicate (n - l.length) zS).length : Int) := by simp; omega
  rw [e]
  refine TabW_size hT (fun i => ?_) (by simp; omega) (fun x hx => ?_)
  · rw [List.getD_eq_getElem?_getD, List.getD_eq_getElem?_getD, List.getElem?_append]
    by_cases hi : i < l.length
    · rw [if_pos hi]
    · rw [if_neg hi, List.getElem?_replicate, List.getElem?_eq_none (by omega)]
      split <;> rfl
  · rw [List.mem_append] at hx
    rcases hx with hx | hx
    · exact hT.right x hx
    · rw [List.eq_of_mem_replicate hx]; rfl
theorem Resize_calls (tb mb : Nat) (l : List Slt) (n : Int) (w : World) (hT : TabW w tb mb l) :
    Calls Try.prog 22 #[.pointer (some ⟨tb, 0, none⟩), .int .i64 n] w (ResizePost w tb mb (tResize l n)) := by
  by_cases hn : 0 ≤ n ∧ n ≤ 256
  · obtain ⟨m, rfl⟩ := Int.eq_ofNat_of_zero_le hn.1
    unfold tResize
    rw [if_pos hn]
    have hm : ((m : Int)).toNat = m := by omega
    rw [hm]
    by_cases h : m ≤ l.length
    · have e1 : m - l.length = 0 := by omega
      have := Resize_cut tb mb l m w hT h
      rw [gone_end] at this
      rw [e1, List.replicate_zero, List.append_nil]
      exact this
    · have := Resize_more tb mb l m w hT (by omega) (by omega)
      rw [List.take_of_length_le (by omega), List.drop_eq_nil_of_le (by omega)]
      exact this
  · unfold tResize
    rw [if_neg hn]
    exact Resize_no tb mb l n w hT (by simp [okSize]; omega)
end Go.Proofs.Ytknbjdbdpdbeiaa
