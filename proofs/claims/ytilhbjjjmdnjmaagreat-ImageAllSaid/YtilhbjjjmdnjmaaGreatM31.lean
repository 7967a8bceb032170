/-
  slices.Delete of one snapshot, out of a row that is owned.
-/
import Derived.Test.YtilhbjjjmdnjmaaGreatM03
import Derived.Test.YtilhbjjjmdnjmaaGreatM13
import Derived.Test.YtilhbjjjmdnjmaaGreatM17
import Derived.OwnWalk
import Derived.Lib.SliceRun
import Derived.Laws.CopyRow
namespace Go.Proofs.YtilhbjjjmdnjmaaGreat
open Go.RowKit Go.Maps

theorem clear_own {w : World} {base g k cap : Nat} {xs : List Value} (h : w.ownsRow base 113 2 (.slice (some ⟨g, 0, none⟩) k cap) k xs) (hk : k < cap) (ty : TypeId) (c : Nat) :
    ∃ w', (Builtin.clear_ #[72] ty #[.slice (some ⟨g, k * 2, none⟩) 1 c]).run Tryz.prog w = .ok (.tuple #[]) w' ∧ w'.ownsRow base 113 2 (.slice (some ⟨g, 0, none⟩) k cap) k xs ∧ Fr [g] w w' := by
  rcases h.2 with ⟨h1, _⟩ | ⟨g', cap', cur, hv, hb, hg, hn, hm, hs, ht⟩
  · cases h1
  · cases hv
    have hz : (zeroValue 113).run Tryz.prog w = .ok (.agg #[.string ⟨#[]⟩, .pointer none]) w := by kernel_rfl
    have hst := run_storeCells_at Tryz.prog g (k * 2) 113 [.string ⟨#[]⟩, .pointer none] 0 cur w hg (by simp; omega) (by intro v hv; simp at hv; rcases hv with rfl | rfl <;> rfl)
    have hzc : (Builtin.zeroCells (Value.agg #[.string ⟨#[]⟩, .pointer none]).cells 1).toList = [.string ⟨#[]⟩, .pointer none] := by kernel_rfl
    refine ⟨_, by simp [Builtin.clear_, run_underlying Tryz.underlying72, hz, hzc, hst]; rfl, ⟨h.1, .inr ⟨g, cap, _, rfl, hb, setRow_heap w g cur _ _ _ hg, hn, hm, ?_, ?_⟩⟩, ⟨rfl, rfl, rfl, by simp [World.setRow], fun y _ hy => setRow_other w g y _ (fun e => hy (by simp [e]))⟩⟩
    · simp
      omega
    · rw [← ht]
      rw [List.take_append_of_le_length (by simp; omega), List.take_take, Nat.min_self]
theorem flatSn_take {l : List (By × Nat)} (k : Nat) : (l.flatMap snC).take (k * 2) = (l.take k).flatMap snC := by
  induction l generalizing k with
  | nil => simp
  | cons x l ih =>
    cases k with
    | zero => simp
    | succ k => rw [List.flatMap_cons, List.take_succ_cons, List.flatMap_cons, ← ih, show (k + 1) * 2 = k * 2 + 1 + 1 by omega]; rfl
theorem owns_pre {w : World} {base g n cap k : Nat} {l : List (By × Nat)} (h : w.ownsRow base 113 2 (.slice (some ⟨g, 0, none⟩) n cap) n (l.flatMap snC)) (hk : k ≤ n) :
    w.ownsRow base 113 2 (.slice (some ⟨g, 0, none⟩) k cap) k ((l.take k).flatMap snC) := by
  have hl : l.length = n := by have := h.1; rw [flatSn_length] at this; omega
  rcases h.2 with ⟨h1, _⟩ | ⟨g', cap', cur, hv, hb, hg, hn, hm, hs, ht⟩
  · cases h1
  · cases hv
    refine ⟨by rw [flatSn_length, List.length_take]; omega, .inr ⟨g, cap, cur, rfl, hb, hg, by omega, hm, hs, ?_⟩⟩
    rw [← flatSn_take, ← ht, List.take_take]
    congr 1
    omega
def delPost (w : World) (base g n cap : Nat) (l : List (By × Nat)) (e : Ending) (w' : World) : Prop := e = .returned (.slice (some ⟨g, 0, none⟩) n cap) ∧ w'.ownsRow base 113 2 (.slice (some ⟨g, 0, none⟩) n cap) n (l.flatMap snC) ∧ Fr [g] w w'
set_option maxRecDepth 100000 in
set_option maxHeartbeats 1600000 in
theorem DeleteS_calls (base g cap i : Nat) (l : List (By × Nat)) (w : World) (h : w.ownsRow base 113 2 (.slice (some ⟨g, 0, none⟩) l.length cap) l.length (l.flatMap snC)) (hi : i < l.length) (hl : l.length ≤ 1048576) :
    Calls Tryz.prog 58 #[.slice (some ⟨g, 0, none⟩) l.length cap, .int .i64 (i : Int), .int .i64 ((i : Int) + 1)] w (delPost w base g (l.length - 1) cap (l.eraseIdx i)) := by
  have hcap : l.length ≤ cap := by rcases h.2 with ⟨h1, _⟩ | ⟨g', cap', cur, hv, _, _, hn, _⟩; cases h1; cases hv; exact hn
  obtain ⟨i0, hi0, hz0, hz1, hz2⟩ := info_parts infoSn
  have hd : Fr [] w w.drew := (Fr.refl _ _).drew
  have hw : w.drew.ownsRow base 113 2 (.slice (some ⟨g, 0, none⟩) l.length cap) l.length (l.flatMap snC) := owns_fr h hd (fun _ _ h => by cases h)
  have hpre := owns_pre hw (k := i) (by omega)
  have hsl := SlF.from 2 (fun _ => rfl) (SlF.of_owns hw : SlF snC w.drew _ l) (m := i + 1) (by omega)
  have hnl : (l.drop (i + 1)).length = l.length - (i + 1) := List.length_drop
  have hers : l.eraseIdx i = l.take i ++ l.drop (i + 1) := List.eraseIdx_eq_take_drop_succ l i
  unfold delPost
  rw [hers]
  have HL := hidIt (rfl : l.length = l.length)
  obtain ⟨n, hn⟩ : ∃ n, l.length = n := ⟨_, rfl⟩
  rw [hn] at hi hl hcap hsl hnl ⊢
  clear h hw hers HL
  have e1 : (i : Int) + 1 = ((i + 1 : Nat) : Int) := by push_cast; rfl
  rw [e1]
  obtain ⟨j, hj⟩ : ∃ j, j = i + 1 := ⟨_, rfl⟩
  rw [← hj] at hsl hnl ⊢
  have hj1 : i ≤ j := by omega
  have hj2 : j ≤ n := by omega
  have hj3 : ((i : Int) == (j : Int)) = false := by simp; omega
  have hj4 : i ≤ cap := by omega
  have hj5 : j ≤ cap := by omega
  have Hj := hidIt hj
  have Hn := hidIt hn
  clear e1 hj hn
  go_enter Tryz.func58, Tryz.ntmps58
  go_wp2_with fail
  have hcell : ∀ ad, slAddr (some ⟨g, 0, none⟩) cap j 2 = some ad → ∀ (t : Nat) (u : Value), ((l.drop j).flatMap snC)[t]? = some u → w.drew.cell? (ad.add t) = some u := fun ad had t u hu => by
    obtain ⟨a', cap', hv, _, _, hc⟩ := hsl
    rw [hnl] at hv
    cases hv
    rcases hc with he | ⟨b, off, hab, hb, hc⟩
    · rw [he] at hu; cases hu
    · rw [hab] at had
      cases had
      have hadd : (⟨b, off, none⟩ : Addr).add t = ⟨b, off + t, none⟩ := by unfold Addr.add; split <;> simp_all
      rw [hadd]
      exact hc t u hu
  have hfl : ((l.drop j).flatMap snC).length = (n - j) * 2 := by rw [flatSn_length, hnl]
  refine wp_region_G (Fr [g] w.drew) [(true, 0), (true, 1), (true, 2), (true, 3), (true, 4), (true, 5), (false, 6), (true, 7)] (by as_aux_lemma => kernel_rfl) (by as_aux_lemma => kernel_rfl) (Fr.refl _ _) ?_
  simp only [inOrder, List.map_cons, List.map_nil, List.getD_cons_zero, List.getD_cons_succ]
  iterate 6
    refine wpG_pure fun K hK => ?_
    go_simp
    refine hK _ ?_
    clear hK K
  refine wpG_list rfl (fun _ _ h => h) fun K hK => ?_
  refine wpList_append_fits_any w.drew rfl (.tmp 22) (.tmp 25) 72 rfl base 113 i0 2 Tryz.underlying72 hi0 hz1 g i cap _ rfl hpre _ (n - j) (cap - j) _ rfl hfl (fun h => ?_) (fun ad had => hcell ad ?_) (flat_one (fun _ => sn_one) _) (by omega) ?_
  · split at h <;> cases h
  · unfold slAddr
    rw [← had]
    split
    · rfl
    · simp [Addr.add]; omega
  intro w2 hown hgrow
  have hF2 : Fr [g] w.drew w2 := Fr.of_grown hgrow
  refine hK _ (fun _ h => h) _ _ hF2 ?_
  clear hK K
  iterate 1
    refine wpG_pure fun K hK => ?_
    go_simp
    refine hK _ ?_
    clear hK K
  refine wpG_end ?_
  have hq : i + (n - j) = n - 1 := by have := Hj.out; omega
  rw [hq] at hown ⊢
  rw [← List.flatMap_append] at hown
  obtain ⟨m, hm⟩ : ∃ m, n - 1 = m := ⟨_, rfl⟩
  rw [hm] at hown ⊢
  have hmn : m ≤ n := by omega
  have hmc : m < cap := by omega
  have hmc2 : ¬ cap = m := by omega
  have hnm : n - m = 1 := by omega
  obtain ⟨w3, hrun, hown3, hf3⟩ := clear_own hown hmc 0 (cap - m)
  have Hm := hidIt hm
  clear hq hm hsl hcell hfl hpre hgrow
  go_wp2
  all_goals
    go_ret
    try subst h
    try (rename_i hc; subst hc)
    exact ⟨by rw [Hm.out]; rfl, by rw [Hm.out, ← List.flatMap_append]; exact hown3, (hd.weak).trans' (hF2.trans' hf3)⟩
end Go.Proofs.YtilhbjjjmdnjmaaGreat
