/-
  Package image: tables.
-/
import Derived.Test.YtilhbjjjmdnjmaaGreatM35
namespace Go.Proofs.YtilhbjjjmdnjmaaGreat
open Go.RowKit Go.Maps
attribute [local go_sem] mapAt_alloc mapAt_setCell mapAt_drew mapAt_drewN

abbrev ptrC (x : Nat) : List Value := [.pointer (some ⟨x, 0, none⟩)]
theorem infoPt : (Tryz.prog.info? 65).map (fun i => (i.zero, i.size, i.bytes)) = some (some (.pointer none), 1, 8) := by kernel_rfl
/-- a slice that was built: a row of its own -/
theorem owns_built {w : World} {b base : Nat} {v : Value} {t : TypeId} (h : Blk w b [v] t) (hb : base ≤ b) : w.ownsRow base t 1 (.slice (some ⟨b, 0, none⟩) 1 1) 1 [v] :=
  ⟨rfl, .inr ⟨b, 1, #[v], rfl, hb, h, Nat.le_refl _, by unfold maxLen; omega, rfl, rfl⟩⟩
def tabsL (p : Pl) : List Nat := p.tb :: p.sp.map (·.1)
def tabsPost (w : World) (p : Pl) (e : Ending) (w' : World) : Prop := ∃ v, e = .returned v ∧ w'.ownsRow w.heap.size 65 1 v (tabsL p).length ((tabsL p).flatMap ptrC) ∧ Fr [] w w'
section
variable {ib : Nat} {p : Pl} {M : Img}
theorem tabsL_succ {k : Nat} (hk : k < p.sp.length) : (tabsL p).take (k + 2) = (tabsL p).take (k + 1) ++ [(p.sp.getD k (0, 0)).1] := by
  have hg : p.sp[k] = p.sp.getD k (0, 0) := by rw [List.getD_eq_getElem?_getD, List.getElem?_eq_getElem hk]; rfl
  unfold tabsL
  rw [List.take_succ_cons, List.take_succ_cons, List.take_succ_eq_append_getElem (by simpa using hk), List.getElem_map, hg]
  rfl
set_option maxRecDepth 100000 in
set_option maxHeartbeats 1600000 in
theorem iTables_calls (w : World) (h : ImgW w ib p M) (hlen : M.s.length ≤ 8) : Calls Tryz.prog 97 #[.pointer (some ⟨ib, 0, none⟩)] w (tabsPost w p) := by
  have b0 := h.blk.cell
  have l0 := h.blk.lt
  obtain ⟨a, cap, hsv, _⟩ := Sl.of_owns h.sn
  obtain ⟨n, hn⟩ : ∃ n, Hid (n = M.s.length) := ⟨_, hidIt rfl⟩
  rw [hsv] at b0
  have hat : ∀ W, Fr [] w W → ∀ i, i < n → ∃ g, a = some ⟨g, 0, none⟩ ∧ g < W.heap.size ∧ W.cell? ⟨g, i * 2, none⟩ = some (strL (M.s.getD i zQ).1) ∧ W.cell? ⟨g, i * 2 + 1, none⟩ = some (.pointer (some ⟨(p.sp.getD i (0, 0)).1, 0, none⟩)) := fun W hW i hi => by
    obtain ⟨g, cap', hv, hg, _, c0, c1⟩ := (h.fr0 hW).snap_at (by rw [← hn.out]; exact hi)
    rw [hsv] at hv
    cases hv
    exact ⟨g, rfl, hg, c0, c1⟩
  have hnx : ∀ k, k < n → Hid ((tabsL p).take (k + 2) = (tabsL p).take (k + 1) ++ [(p.sp.getD k (0, 0)).1]) := fun k hk => hidIt (tabsL_succ (by rw [h.snl, ← hn.out]; exact hk))
  have hend : Hid ((tabsL p).take (n + 1) = tabsL p ∧ (tabsL p).length = n + 1) := hidIt (by
    have hl : (tabsL p).length = n + 1 := by simp [tabsL, h.snl, hn.out]
    exact ⟨by rw [← hl, List.take_length], hl⟩)
  have hfst : Hid ((tabsL p).take 1 = [p.tb]) := hidIt rfl
  unfold tabsPost
  rw [← hn.out] at b0 hlen
  rw [hend.out.2]
  clear hsv h
  generalize tabsL p = ts at *
  go_enter Tryz.func97, Tryz.ntmps97
  go_wp2_with fail
  have Bb := Blk.new w [.pointer (some ⟨p.tb, 0, none⟩)] 65
  have hF0 := (Fr.refl [] w).alloc (.cells #[.pointer (some ⟨p.tb, 0, none⟩)] 65)
  have ho0 : (w.alloc (.cells #[.pointer (some ⟨p.tb, 0, none⟩)] 65)).ownsRow w.heap.size 65 1 (.slice (some ⟨w.heap.size, 0, none⟩) 1 1) 1 ((ts.take 1).flatMap ptrC) := by
    rw [hfst.out]
    exact owns_built Bb (Nat.le_refl _)
  go_loopw [3, 5, 16] (fun v _ i wr => ∃ k : Nat, k ≤ n ∧ i = .int .i64 (k : Int) ∧ wr.ownsRow w.heap.size 65 1 v (k + 1) ((ts.take (k + 1)).flatMap ptrC) ∧ Fr [] w wr) (fun _ _ i _ => n - (intOf i).toNat)
  case atStart => exact ⟨0, Nat.zero_le _, rfl, ho0, hF0⟩
  case round =>
    clear ho0 hF0 Bb
    obtain ⟨k, hk, rfl, ho, hF⟩ := hrel
    by_cases hlt : k < n
    · obtain ⟨g, rfl, hg, c0, c1⟩ := hat wr hF k hlt
      have hx := hnx k hlt
      generalize (M.s.getD k zQ).1 = x at *
      generalize (p.sp.getD k (0, 0)).1 = tq at *
      obtain ⟨S, hS⟩ : ∃ S, Hid (Value.string S = strL x) := ⟨⟨x.toArray⟩, hidIt rfl⟩
      rw [← hS.out] at c0
      obtain ⟨av, cv, rfl, _⟩ := Sl.of_owns ho
      have hz := hF.size
      clear hat hnx hend b0 hfst
      have hone : ∀ u ∈ ptrC tq, u.oneCell' = true := fun u hu => by rw [List.mem_singleton.1 hu]; rfl
      go_wp2_with (at_builtin; refine wpList_append1 158 65 _ 1 8 Tryz.underlying158 infoPt rfl (by decide) (by decide) rfl _ _ rfl w.heap.size _ _ _ rfl ((ho.alloc _).alloc _) (ptrC tq) rfl hone (wr.heap.size + 1) rfl (Blk.new' (by simp) _ _) (by omega) (by simp; omega) ?_; intro v' w2 hown2 hgrow hloc)
      have hF2 : Fr [] w w2 := ((hF.alloc _).alloc _).grown hgrow (fun y hy => .inr (own_base ho y hy))
      rw [show ptrC tq = [tq].flatMap ptrC from rfl, ← List.flatMap_append, ← hx.out] at hown2
      obtain ⟨a2, q2, rfl, _⟩ := Sl.of_owns hown2
      clear c0 c1 hgrow hloc
      go_wp2
      go_roundw
      case rel => exact ⟨k + 1, by omega, by go_num, hown2, hF2⟩
      case measure => simp [intOf]; omega
    · have hke : k = n := by omega
      subst hke
      rw [hend.out.1] at ho
      obtain ⟨av, cv, rfl, _⟩ := Sl.of_owns ho
      clear hat hnx hend hfst
      go_wp2
      go_ret
      exact ⟨_, rfl, ho, hF⟩
end
end Go.Proofs.YtilhbjjjmdnjmaaGreat
