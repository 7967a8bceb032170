/-
  Package bits: the closures of Set and Clear, each, Set, Clear.
-/
import Derived.Test.YtfmolbgfhchdkaaBitA
namespace Go.Proofs.Ytfmolbgfhchdkaa
open Go.RowKit Go.Maps
attribute [local go_sem] mapAt_alloc mapAt_setCell mapAt_drew mapAt_drewN

theorem getD_setB (l : List Bool) (c n : Nat) (b : Bool) (hc : c < l.length) : (l.set c b).getD n false = if n = c then b else l.getD n false := by
  rw [List.getD_eq_getElem?_getD, List.getElem?_set, List.getD_eq_getElem?_getD]
  by_cases h : c = n
  · subst h; simp [hc]
  · rw [if_neg h, if_neg (fun e => h e.symm)]
theorem bitM_set {l : List Bool} {c : Nat} (b : Bool) (hc : c < l.length) : bitM (l.set c b) = upd (bitM l) (.int .i64 (c : Int)) (if b = true then some (.int .i64 1) else none) := by
  funext x
  by_cases hx : x = .int .i64 (c : Int)
  · subst hx
    rw [upd_same, bitM_int, Int.toNat_natCast, getD_setB _ _ _ _ hc, if_pos rfl]
    cases b <;> simp
  · rw [upd_other _ _ hx]
    cases x with
    | int q k =>
      cases q with
      | i64 =>
        rw [bitM_int, bitM_int]
        by_cases h0 : 0 ≤ k
        · have hkc : k.toNat ≠ c := fun e => hx (by rw [← e, Int.toNat_of_nonneg h0])
          rw [getD_setB _ _ _ _ hc, if_neg hkc]
        · rw [if_neg (fun h => h0 h.1), if_neg (fun h => h0 h.1)]
      | _ => rfl
    | _ => rfl
theorem BitW_set {w w' : World} {tb mb S g : Nat} {l : List Bool} {c : Nat} {b : Bool} (h : BitW w tb mb S g l) (hc : c < l.length) (hf : Fr [mb] w w') {es : Array MapEntry} {clock : Nat} (hm : mapAt w' mb = some (es, clock))
    (hi : IsM Try.prog 3 es clock (upd (bitM l) (.int .i64 (c : Int)) (if b = true then some (.int .i64 1) else none))) : BitW w' tb mb S g (l.set c b) :=
  ⟨h.blk.fr hf (by have := h.ne; simp; exact this), h.size, h.grain, by rw [List.length_set]; exact h.len, es, clock, hm, by rw [bitM_set b hc]; exact hi⟩
set_option maxRecDepth 100000 in
set_option maxHeartbeats 800000 in
theorem set1_calls (tb mb S g cb : Nat) (l : List Bool) (c : Nat) (w : World) (h : BitW w tb mb S g l) (hc : c < l.length) (B : Blk w cb [.pointer (some ⟨tb, 0, none⟩)] 25) :
    Calls Try.prog 38 #[.int .i64 (c : Int), .pointer (some ⟨cb, 0, none⟩)] w fun e w' => (∃ v, e = .returned v) ∧ BitW w' tb mb S g (l.set c true) ∧ Fr [mb] w w' := by
  have cb0 := B.cell
  have ct := h.blk.cell
  have hle := gran_le h.size h.grain.1
  have hlen := h.len
  obtain ⟨es, clock, hm, hi⟩ := h.map
  go_enter Try.func38, Try.ntmps38
  go_wp2_with (refine wpList_mapUpdate_isM rfl _ _ _ 69 rfl Try.underlying69 keyInt hi mb rfl _ rfl _ rfl (keyI (by omega) (by omega)) hm ?_; intro es' clock' hi')
  have hf : Fr [mb] w (putMap w mb es' clock') := (Fr.refl _ w).trans (putMap_fr _ _ _ _) (by simp)
  exact bodyPost_end (v := .tuple #[]) (results_none rfl _ _ _) rfl ⟨⟨_, rfl⟩, BitW_set h hc hf (mapAt_putMap (mapAt_lt hm) _ _) hi', hf⟩
set_option maxRecDepth 100000 in
set_option maxHeartbeats 800000 in
theorem clear1_calls (tb mb S g cb : Nat) (l : List Bool) (c : Nat) (w : World) (h : BitW w tb mb S g l) (hc : c < l.length) (B : Blk w cb [.pointer (some ⟨tb, 0, none⟩)] 25) :
    Calls Try.prog 37 #[.int .i64 (c : Int), .pointer (some ⟨cb, 0, none⟩)] w fun e w' => (∃ v, e = .returned v) ∧ BitW w' tb mb S g (l.set c false) ∧ Fr [mb] w w' := by
  have cb0 := B.cell
  have ct := h.blk.cell
  have hle := gran_le h.size h.grain.1
  have hlen := h.len
  obtain ⟨es, clock, hm, hi⟩ := h.map
  go_enter Try.func37, Try.ntmps37
  go_wp2_with (refine wpList_delete_isM rfl _ _ 69 3 rfl Try.underlying69 keyInt hi mb rfl _ rfl (keyI (by omega) (by omega)) hm ?_; intro es' hi')
  have hf : Fr [mb] w (putMap w mb es' clock) := (Fr.refl _ w).trans (putMap_fr _ _ _ _) (by simp)
  exact bodyPost_end (v := .tuple #[]) (results_none rfl _ _ _) rfl ⟨⟨_, rfl⟩, BitW_set h hc hf (mapAt_putMap (mapAt_lt hm) _ _) hi', hf⟩
end Go.Proofs.Ytfmolbgfhchdkaa
