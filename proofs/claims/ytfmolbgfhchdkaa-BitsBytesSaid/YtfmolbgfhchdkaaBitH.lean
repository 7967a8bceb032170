/-
  Package bits: Resize.
-/
import Derived.Test.YtfmolbgfhchdkaaBitG
import Derived.Test.YtfmolbgfhchdkaaRng
namespace Go.Proofs.Ytfmolbgfhchdkaa
open Go.RowKit Go.Maps
attribute [local go_sem] mapAt_alloc mapAt_setCell mapAt_drew mapAt_drewN

theorem resize1_calls (tb mb S g cb : Nat) (k : Int) (v : Value) (w : World) (B : Blk w tb [.int .i64 S, .int .i64 g, .map (some mb)] 71) (C : Blk w cb [.pointer (some ⟨tb, 0, none⟩)] 25) (hs : S ≤ 4096) (hg : 0 < g ∧ g ≤ 64) :
    Calls Try.prog 56 #[.int .i64 k, v, .pointer (some ⟨cb, 0, none⟩)] w fun e w' => e = .returned (.bool (decide ((gran S g : Int) ≤ k))) ∧ Fr [] w w' := by
  have cb0 := C.cell
  go_enter Try.func56, Try.ntmps56
  go_wp2_with fail
  refine (granulesB_calls tb S g _ _ B hs hg).mono ?_
  rintro r w1 ⟨rfl, hf⟩
  go_wp2
  go_ret
  exact ⟨rfl, hf⟩
def cutB (l : List Bool) (G : Nat) : List Bool := (List.range G).map fun k => l.getD k false
theorem cutB_getD (l : List Bool) (G k : Nat) : (cutB l G).getD k false = if k < G then l.getD k false else false := by
  unfold cutB
  rw [List.getD_eq_getElem?_getD, List.getElem?_map]
  by_cases h : k < G
  · rw [List.getElem?_range h, if_pos h]; rfl
  · rw [List.getElem?_eq_none (by simp; omega), if_neg h]; rfl
def keepK (G : Nat) : Value → Prop
  | .int .i64 k => k < G
  | _ => False
theorem bitM_int' (l : List Bool) (x v : Value) (h : bitM l x = some v) : ∃ k : Nat, x = .int .i64 (k : Int) ∧ v = .int .i64 1 ∧ k < l.length := by
  cases x with
  | int q k =>
    cases q with
    | i64 =>
      rw [bitM_int] at h
      by_cases hc : 0 ≤ k ∧ l.getD k.toNat false = true
      · rw [if_pos hc] at h
        refine ⟨k.toNat, by rw [Int.toNat_of_nonneg hc.1], (Option.some.inj h).symm, ?_⟩
        by_cases hl : k.toNat < l.length
        · exact hl
        · have := hc.2
          rw [List.getD_eq_getElem?_getD, List.getElem?_eq_none (by omega)] at this
          cases this
      · rw [if_neg hc] at h
        cases h
    | _ => cases h
  | _ => cases h
theorem bitM_cut (l : List Bool) (G : Nat) (x : Value) : (keepK G x → bitM (cutB l G) x = bitM l x) ∧ (¬ keepK G x → bitM (cutB l G) x = none) := by
  cases x with
  | int q k =>
    cases q with
    | i64 =>
      rw [bitM_int, bitM_int, cutB_getD]
      constructor
      · intro h
        have h : k < G := h
        by_cases h0 : 0 ≤ k
        · rw [if_pos (show k.toNat < G by omega)]
        · rw [if_neg (fun h => h0 h.1), if_neg (fun h => h0 h.1)]
      · intro h
        have h : ¬ k < G := h
        rw [if_neg (show ¬ k.toNat < G by omega), if_neg (by simp)]
    | _ => exact ⟨fun h => h.elim, fun _ => rfl⟩
  | _ => exact ⟨fun h => h.elim, fun _ => rfl⟩
def MidM (l : List Bool) (G : Nat) (L : Value → Prop) (m : Value → Option Value) : Prop := ∀ x, ((L x ∨ keepK G x) → m x = bitM l x) ∧ (¬ (L x ∨ keepK G x) → m x = none)
theorem MidM.start (l : List Bool) (G : Nat) : MidM l G (fun k => (bitM l k).isSome = true) (bitM l) := fun x => ⟨fun _ => rfl, fun h => by
  cases hb : bitM l x with
  | none => rfl
  | some v => exact absurd (.inl (by simp [hb])) h⟩
theorem MidM.keep {l : List Bool} {G : Nat} {L : Value → Prop} {m : Value → Option Value} (h : MidM l G L m) {k : Value} (hk : keepK G k) : MidM l G (fun x => L x ∧ x ≠ k) m := fun x => by
  refine ⟨fun hx => (h x).1 (hx.imp (fun h => h.1) id), fun hx => ?_⟩
  by_cases e : x = k
  · subst e; exact absurd (.inr hk) hx
  · exact (h x).2 (fun h' => hx (h'.imp (fun h => ⟨h, e⟩) id))
theorem MidM.drop {l : List Bool} {G : Nat} {L : Value → Prop} {m : Value → Option Value} (h : MidM l G L m) {k : Value} (hk : ¬ keepK G k) : MidM l G (fun x => L x ∧ x ≠ k) (upd m k none) := fun x => by
  by_cases e : x = k
  · subst e
    exact ⟨fun hx => (hx.elim (fun h => absurd rfl h.2) (fun h => absurd h hk)), fun _ => upd_same _ _ _⟩
  · rw [upd_other _ _ e]
    exact ⟨fun hx => (h x).1 (hx.imp (fun h => h.1) id), fun hx => (h x).2 (fun h' => hx (h'.imp (fun h => ⟨h, e⟩) id))⟩
theorem MidM.done {l : List Bool} {G : Nat} {L : Value → Prop} {m : Value → Option Value} (h : MidM l G L m) (hL : ∀ k, ¬ L k) : m = bitM (cutB l G) := by
  funext x
  by_cases hk : keepK G x
  · rw [(bitM_cut l G x).1 hk, (h x).1 (.inr hk)]
  · rw [(bitM_cut l G x).2 hk, (h x).2 (fun h' => h'.elim (hL x) hk)]
set_option maxRecDepth 100000 in
set_option maxHeartbeats 1600000 in
theorem DeleteFunc_calls (tb mb S g cb : Nat) (l : List Bool) (w : World) (B : Blk w tb [.int .i64 S, .int .i64 g, .map (some mb)] 71) (C : Blk w cb [.pointer (some ⟨tb, 0, none⟩)] 25) (hs : S ≤ 4096) (hg : 0 < g ∧ g ≤ 64)
    (hl : l.length ≤ 4096) {es : Array MapEntry} {clock : Nat} (hm : mapAt w mb = some (es, clock)) (hi : IsM Try.prog 3 es clock (bitM l)) :
    Calls Try.prog 55 #[.map (some mb), .func (.func 56) #[] #[.pointer (some ⟨cb, 0, none⟩)]] w
      fun e w' => (∃ v, e = .returned v) ∧ Fr [mb] w w' ∧ ∃ es' clock', mapAt w' mb = some (es', clock') ∧ IsM Try.prog 3 es' clock' (bitM (cutB l (gran S g))) := by
  have hmt : mb ≠ tb := by rintro rfl; have := (mapAt_some.1 hm).symm.trans B; cases this
  have hmc : mb ≠ cb := by rintro rfl; have := (mapAt_some.1 hm).symm.trans C; cases this
  have hBlt := B.lt
  have hClt := C.lt
  have hMlt := mapAt_lt hm
  have hle := gran_le hs hg.1
  go_enter Try.func55, Try.ntmps55
  go_wp2_with (first
    | (at_range; refine wpList_range_isM rfl _ _ rfl Try.underlying69 hi mb rfl hm ?_; intro hrg0)
    | go_in)
  go_frame
  have hF0 : Fr [mb] w (w.alloc (.mapIter (some mb) clock #[] clock)) := (Fr.refl _ _).alloc _
  go_loopw [4, 5] (fun _ _ wr => ∃ L cnt m, RngM Try.prog 3 wr mb w.heap.size m L cnt ∧ MidM l (gran S g) L m ∧ (∀ x, L x → (bitM l x).isSome = true) ∧ Fr [mb] w wr) (fun _ _ wr => wr.rangeLeft mb w.heap.size)
  case atStart => exact ⟨_, _, _, hrg0, MidM.start _ _, fun _ h => h, hF0⟩
  case round =>
    obtain ⟨L, cnt, m, hrg, hM, hLs, hF⟩ := hrel
    have hleft := hidIt hrg.left
    generalize wr = wo at *
    go_wp2_with (first
      | (at_next; refine wpList_next_isM rfl _ rfl mb w.heap.size rfl hrg ?_ ?_)
      | go_in)
    · intro hL
      go_wp2
      refine bodyPost_end (v := .tuple #[]) (results_none rfl _ _ _) rfl ⟨⟨_, rfl⟩, hF, ?_⟩
      obtain ⟨es', clock', h1, h2⟩ := hrg.map
      rw [hM.done hL] at h2
      exact ⟨es', clock', h1, h2⟩
    · intro k v w1 cnt1 hLk hmk hrg1 hlt hf1 hsz1 hen
      rw [(hM k).1 (.inl hLk)] at hmk
      obtain ⟨n, rfl, rfl, hnl⟩ := bitM_int' l k v hmk
      have hF1 : Fr [mb] w w1 := hF.trans1 hf1 (Nat.le_refl _)
      have B1 := B.fr hF1 (by simp; exact fun e => hmt e.symm)
      have C1 := C.fr hF1 (by simp; exact fun e => hmc e.symm)
      have hkey := keyI (k := (n : Int)) (by omega) (by omega)
      have hK1 := fun h => hidIt (hM.keep (k := .int .i64 (n : Int)) h)
      have hK2 := fun h => hidIt (hM.drop (k := .int .i64 (n : Int)) h)
      have hLs' : ∀ x, (L x ∧ x ≠ .int .i64 (n : Int)) → (bitM l x).isSome = true := fun x h => hLs x h.1
      by_cases hd : gran S g ≤ n
      · have hK2 := hK2 (show ¬ (n : Int) < (gran S g : Nat) by omega)
        have hd' : decide ((gran S g : Int) ≤ (n : Int)) = true := by simp; exact hd
        clear hK1 hM hmk
        go_wp2_with fail
        refine (resize1_calls tb mb S g cb n _ _ B1 C1 hs hg).mono ?_
        rintro r w2 ⟨rfl, hf2⟩
        rw [hd']
        have hrg2 := hrg1.fr0 hf2
        clear hen
        go_wp2_with (first
          | (at_delete; refine wpList_delete_rng rfl _ _ 69 3 rfl Try.underlying69 keyInt mb w.heap.size hrg2 rfl (.int .i64 (n : Int)) rfl hkey (fun h => h.2 rfl) ?_; intro w3 cnt3 hrg3 hle3 hf3 hsz3; go_frame)
          | go_in)
        go_roundw
        case rel => exact ⟨_, _, _, hrg3, hK2.out, hLs', (hF1.trans0 hf2).trans' hf3⟩
        case measure => rw [hrg3.left, hleft.out]; omega
      · have hK1 := hK1 (show (n : Int) < (gran S g : Nat) by omega)
        have hd' : decide ((gran S g : Int) ≤ (n : Int)) = false := by simp; omega
        clear hK2 hM hmk
        go_wp2_with fail
        refine (resize1_calls tb mb S g cb n _ _ B1 C1 hs hg).mono ?_
        rintro r w2 ⟨rfl, hf2⟩
        rw [hd']
        have hrg2 := hrg1.fr0 hf2
        clear hen
        go_wp2
        go_roundw
        case rel => exact ⟨_, _, _, hrg2, hK1.out, hLs', hF1.trans0 hf2⟩
        case measure => rw [hrg2.left, hleft.out]; omega
end Go.Proofs.Ytfmolbgfhchdkaa
