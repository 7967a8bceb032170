/-
  ref09.Of: the walk.
-/
import Derived.Test.YtfmolbgfhchdkaaSpanOf
import Derived.Test.YtfmolbgfhchdkaaSpanQ
namespace Go.Proofs.Ytfmolbgfhchdkaa
open Go.RowKit Go.Maps

theorem midE.len {ks : List Int} {out : List Op3} {f k : Nat} (h : midE ks out f k) : out.length < k := by
  have h1 := (RightE.of (ks.take k)).len
  rw [h.2.2, List.length_append, List.length_take] at h1
  have := h.2.1
  simp at h1
  omega
set_option maxRecDepth 100000 in
set_option maxHeartbeats 1600000 in
theorem rOf_calls (v : Value) (ks : List Int) (w : World) (hv : SlI w v ks) (hn : ks.length ≤ 4096) : Calls Try.prog 45 #[v] w fun e w' => ∃ v', e = .returned v' ∧ SlP w' v' (ofE ks) ∧ Fr [] w w' := by
  obtain ⟨a, cap, rfl, hlc, hcm, _⟩ := hv.open
  unfold maxLen at hcm
  have hle : (ks.length : Int) ≤ 65536 := by omega
  go_enter Try.func45, Try.ntmps45
  go_wp2_with fail
  go_loopw [3, 4, 5] (fun o fr k wr => ∃ (O : List Op3) (f n : Nat), fr = .int .i64 f ∧ k = .int .i64 n ∧ wr.ownsRow w.heap.size 45 3 o O.length (O.flatMap op3C) ∧ (midE ks O f n ∨ (n = ks.length + 1 ∧ O = ofE ks)) ∧ Fr [] w wr) (fun _ _ k _ => ks.length + 1 - (intOf k).toNat)
  case atStart =>
    refine ⟨[], 0, 1, rfl, rfl, World.ownsRow_nil _ _ _ _, ?_, Fr.refl _ _⟩
    by_cases h : 0 < ks.length
    · exact .inl (midE.start h)
    · have : ks = [] := List.eq_nil_of_length_eq_zero (by omega)
      subst this
      exact .inr ⟨rfl, rfl⟩
  case round =>
    obtain ⟨O, f, n, rfl, rfl, hown, hst, hF⟩ := hrel
    rcases hst with hmid | ⟨hn1, hO⟩
    · have hol := hmid.len
      have hfn := hmid.1
      have hnl := hmid.2.1
      have hob := own_base hown
      have hsz := hF.size
      obtain ⟨b, off, rfl, hb, c0⟩ := SlI.at (hv.fr0 hF) (i := f) (by omega)
      by_cases he : n = ks.length
      · have Hd : Hid (O ++ [((f : Int), (n : Int) - f, ks.getD f 0)] = ofE ks) := hidIt (by have := hmid; rw [he] at this ⊢; exact this.done)
        subst he
        generalize ks.getD f 0 = y at *
        clear hmid
        go_wp2_with fail
        go_quiet (fail)
        go_wp2_with (at_builtin; refine Hid.out ?_)
        refine hidIt ?_
        refine wpList_append1 42 45 (.agg #[.int .i64 0, .int .i64 0, .int .i64 0]) 3 24 Try.underlying42 infoExt rfl (by decide) (by decide) rfl _ _ rfl w.heap.size u3 O.length (O.flatMap op3C) rfl ((owns_drewN hown _).alloc _) (op3C ((f : Int), (ks.length : Int) - f, y)) rfl ext_one wr.heap.size rfl (Blk.new _ _ _) (by omega) (by simp; omega) ?_
        intro v' w2 hown2 hgrow hloc
        go_frame
        go_wp2
        go_roundw
        case rel =>
          refine ⟨O ++ [((f : Int), (ks.length : Int) - f, y)], ks.length, ks.length + 1, rfl, by go_num, ?_, .inr ⟨rfl, Hd.out⟩, ((hF.drewN _).alloc _).grown hgrow (fun x hx => .inr (hob x hx))⟩
          simp only [List.length_append, List.length_singleton, List.flatMap_append, List.flatMap_cons, List.flatMap_nil, List.append_nil]
          exact hown2
        case measure => simp [intOf] <;> omega
      · have hnl2 : n < ks.length := by omega
        have hbn : ((n : Int) == (ks.length : Int)) = false := by simp; omega
        obtain ⟨b1, off1, hab, hb1, c1⟩ := SlI.at (hv.fr0 hF) hnl2
        cases hab
        by_cases hxy : ks.getD n 0 = ks.getD f 0
        · have Hm := hidIt (hmid.same hnl2 hxy)
          rw [hxy] at c1
          generalize ks.getD f 0 = y at *
          clear hmid hxy
          go_wp2_with fail
          go_quiet (fail)
          go_wp2
          go_roundw
          case rel => exact ⟨O, f, n + 1, rfl, by go_num, hown, .inl Hm.out, hF.drewN _⟩
          case measure => simp [intOf] <;> omega
        · have Hm := hidIt (hmid.turn hnl2 hxy)
          generalize ks.getD f 0 = y at *
          generalize ks.getD n 0 = z at *
          clear hmid
          go_wp2_with fail
          go_quiet (fail)
          go_wp2_with (at_builtin; refine Hid.out ?_)
          refine hidIt ?_
          refine wpList_append1 42 45 (.agg #[.int .i64 0, .int .i64 0, .int .i64 0]) 3 24 Try.underlying42 infoExt rfl (by decide) (by decide) rfl _ _ rfl w.heap.size u3 O.length (O.flatMap op3C) rfl ((owns_drewN hown _).alloc _) (op3C ((f : Int), (n : Int) - f, y)) rfl ext_one wr.heap.size rfl (Blk.new _ _ _) (by omega) (by simp; omega) ?_
          intro v' w2 hown2 hgrow hloc
          go_frame
          go_wp2
          go_roundw
          case rel =>
            refine ⟨O ++ [((f : Int), (n : Int) - f, y)], n, n + 1, rfl, by go_num, ?_, .inl Hm.out, ((hF.drewN _).alloc _).grown hgrow (fun x hx => .inr (hob x hx))⟩
            simp only [List.length_append, List.length_singleton, List.flatMap_append, List.flatMap_cons, List.flatMap_nil, List.append_nil]
            exact hown2
          case measure => simp [intOf] <;> omega
    · have Ho : Hid (O = ofE ks) := hidIt hO
      clear hO
      have hnle : ¬ (n : Int) ≤ (ks.length : Int) := by omega
      go_wp2
      go_ret
      exact ⟨u3, rfl, by rw [← Ho.out]; exact SlF.of_owns hown, hF⟩
end Go.Proofs.Ytfmolbgfhchdkaa
