/-
  A call on an image, in plain Lean: what it does, what it keeps.
-/
import Derived.Test.YtilhbjjjmdnjmaaGreatM26
import Derived.Test.YtilhbjjjmdnjmaaGreatM32
import Derived.Test.YtilhbjjjmdnjmaaGreatM33
namespace Go.Proofs.YtilhbjjjmdnjmaaGreat
open Go.RowKit

/-- the error, and the image behind a call -/
def opE (M : Img) (o : OpI) (bel : List By) : Int × Img :=
  if o.k = 0 then (insideI M o.x o.lo, M) else if o.k = 1 then writeE M o.x o.b bel else if o.k = 2 then zeroE M o.x o.lo bel else if o.k = 3 then discardE M o.x o.lo
  else if o.k = 4 then resizeE M o.lo else if o.k = 5 then snapE M o.nm else if o.k = 6 then applyE M o.nm else if o.k = 7 then dropR M o.nm else (0, M)
/-- what Read tells -/
def opR (M : Img) (o : OpI) : By := if o.k = 0 ∧ insideI M o.x o.lo = 0 then readI M o.x.toNat o.lo.toNat else []
/-- what a call keeps: all snapshots but one of a name, at the most -/
structure OpK (M R : Img) (P : By → Prop) : Prop where
  ok : OkI R
  B : R.B = M.B
  n : R.n.length = M.n.length
  snap : ∀ q ∈ M.s, P q.1 → q ∈ R.s ∧ conT R q.2 = conT M q.2
section
variable {M : Img} (h : OkI M)
include h
theorem OpK.same (P : By → Prop) : OpK M M P := ⟨h, rfl, rfl, fun _ hq _ => ⟨hq, rfl⟩⟩
theorem write_K (x : Int) (b : By) (bel : List By) (P : By → Prop) : OpK M (writeE M x b bel).2 P := by
  unfold writeE
  split
  · exact OpK.same h P
  · rename_i h16
    split
    · exact OpK.same h P
    · rename_i hi
      obtain ⟨a, n, rfl, hn, hal⟩ := inside_ok (Classical.not_not.1 hi)
      have hn : b.length / 16 = n := by omega
      rw [Int.toNat_natCast, hn]
      split
      · exact OpK.same h P
      · rename_i hf
        have hI := wrN_inv (zero := false) (x := belF bel) h hal (by omega : b.length = 16 * n) (belF_len bel) (by omega) _ (Nat.le_refl _)
        exact ⟨hI.ok, hI.B, hI.n, fun q hq _ => ⟨by show q ∈ (wrN _ _ _ _ _ _ _).s; rw [hI.s]; exact hq, conT_eq fun y hy => hI.snap q hq y hy⟩⟩
theorem zero_K (x l : Int) (bel : List By) (P : By → Prop) : OpK M (zeroE M x l bel).2 P := by
  unfold zeroE
  split
  · exact OpK.same h P
  · rename_i hi
    obtain ⟨a, n, rfl, rfl, hal⟩ := inside_ok (Classical.not_not.1 hi)
    rw [Int.toNat_natCast, Int.toNat_natCast]
    split
    · exact OpK.same h P
    · rename_i hf
      have hI := wrN_inv (zero := true) (x := belF bel) (b := zBy (16 * n)) h hal (by simp [zBy]) (belF_len bel) (by omega) _ (Nat.le_refl _)
      exact ⟨hI.ok, hI.B, hI.n, fun q hq _ => ⟨by show q ∈ (wrN _ _ _ _ _ _ _).s; rw [hI.s]; exact hq, conT_eq fun y hy => hI.snap q hq y hy⟩⟩
theorem discard_K (x l : Int) (P : By → Prop) : OpK M (discardE M x l).2 P := by
  unfold discardE
  split
  · exact OpK.same h P
  · rename_i hi
    obtain ⟨a, n, rfl, rfl, hal⟩ := inside_ok (Classical.not_not.1 hi)
    rw [Int.toNat_natCast, Int.toNat_natCast]
    have hI := dis_inv h hal _ (Nat.le_refl _)
    exact ⟨hI.ok, hI.B, hI.n, fun q hq _ => ⟨by show q ∈ (disN _ _ _ _).s; rw [hI.s]; exact hq, conT_eq fun y hy => hI.snap q hq y hy⟩⟩
theorem resize_K (l : Int) (P : By → Prop) : OpK M (resizeE M l).2 P := by
  unfold resizeE
  split
  · rename_i hl
    have hk := resize_keep (M := M) l.toNat
    exact ⟨resize_ok h _ (by omega), hk.1, hk.2.2.1, fun q hq _ => ⟨by rw [hk.2.1]; exact hq, resize_snap h _ (by omega) hq⟩⟩
  · exact OpK.same h P
theorem snap_K (nm : By) (P : By → Prop) : OpK M (snapE M nm).2 P := by
  unfold snapE
  split
  · exact OpK.same h P
  · split
    · exact OpK.same h P
    · rename_i hn hf
      have hn : okName nm = true := by simpa using hn
      have h1 : findI M.s nm = none := by
        cases e : findI M.s nm with
        | none => rfl
        | some k => exact absurd (.inl (by rw [e]; rfl)) hf
      have h8 : M.s.length < 8 := by
        refine Classical.byContradiction fun hh => hf (.inr (by omega))
      have hk := snap_keep M nm
      exact ⟨snap_ok h hn (findI_none h1) h8, hk.1, hk.2.2.1, fun q hq _ => ⟨by rw [hk.2.1]; exact List.mem_append_left _ hq, conT_eq fun x _ => snap_conS M nm x⟩⟩
theorem apply_K (nm : By) (P : By → Prop) : OpK M (applyE M nm).2 P := by
  unfold applyE
  cases e : findI M.s nm with
  | none => exact OpK.same h P
  | some k =>
    obtain ⟨hk, _⟩ := findI_some e
    have hp := apply_keep (M := M) (k := k)
    exact ⟨apply_ok h hk, hp.1, hp.2.2.1, fun q hq _ => ⟨by rw [hp.2.1]; exact hq, apply_snap h hk hq⟩⟩
theorem drop_K (nm : By) (P : By → Prop) (hP : ¬ P nm) : OpK M (dropR M nm).2 P := by
  unfold dropR
  cases e : findI M.s nm with
  | none => exact OpK.same h P
  | some k =>
    obtain ⟨hk, hn⟩ := findI_some e
    have hp := drop_keep (M := M) (k := k)
    have hm : ∀ q ∈ M.s, P q.1 → q ∈ M.s.eraseIdx k := fun q hq hPq => by
      obtain ⟨i, hi, rfl⟩ := List.getElem_of_mem hq
      refine (List.mem_eraseIdx_iff_getElem).2 ⟨i, hi, fun hik => ?_, rfl⟩
      subst hik
      refine hP ?_
      rw [← hn, List.getD_eq_getElem?_getD, List.getElem?_eq_getElem hi]
      exact hPq
    exact ⟨drop_ok h hk, hp.1, hp.2.2.1, fun q hq hPq => ⟨by rw [hp.2.1]; exact hm q hq hPq, drop_snap h hk (hm q hq hPq)⟩⟩
theorem op_K (o : OpI) (bel : List By) (P : By → Prop) (hP : o.k < 5 ∨ ¬ P o.nm) : OpK M (opE M o bel).2 P := by
  unfold opE
  split
  · exact OpK.same h P
  split
  · exact write_K h _ _ _ _
  split
  · exact zero_K h _ _ _ _
  split
  · exact discard_K h _ _ _
  split
  · exact resize_K h _ _
  split
  · exact snap_K h _ _
  split
  · exact apply_K h _ _
  split
  · exact drop_K h _ _ (hP.resolve_left (by omega))
  · exact OpK.same h P
theorem op_ok (o : OpI) (bel : List By) : OkI (opE M o bel).2 := (op_K h o bel (fun _ => False) (.inr fun h => h)).ok
theorem op_B (o : OpI) (bel : List By) : (opE M o bel).2.B = M.B := (op_K h o bel (fun _ => False) (.inr fun h => h)).B
theorem op_n (o : OpI) (bel : List By) : (opE M o bel).2.n.length = M.n.length := (op_K h o bel (fun _ => False) (.inr fun h => h)).n
end
/-- with an error nothing has changed -/
theorem op_err {M : Img} (o : OpI) (bel : List By) (he : (opE M o bel).1 ≠ 0) : (opE M o bel).2 = M := by
  revert he
  unfold opE writeE zeroE discardE resizeE snapE applyE dropR
  repeat' split
  all_goals intro he
  all_goals first | rfl | (exact absurd rfl he)
end Go.Proofs.YtilhbjjjmdnjmaaGreat
