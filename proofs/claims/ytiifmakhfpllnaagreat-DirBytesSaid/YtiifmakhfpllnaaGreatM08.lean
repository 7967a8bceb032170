/-
  Package bits: Resize.
-/
import Derived.Test.YtiifmakhfpllnaaGreatM05
import Derived.Test.YtiifmakhfpllnaaGreatM02
namespace Go.Proofs.YtiifmakhfpllnaaGreat
open Go.RowKit Go.Maps
attribute [local go_sem] mapAt_alloc mapAt_setCell mapAt_drew mapAt_drewN

theorem resize1_calls (tb mb S g cb : Nat) (k : Int) (v : Value) (w : World) (B : Blk w tb [.int .i64 S, .int .i64 g, .map (some mb)] 113) (C : Blk w cb [.pointer (some ⟨tb, 0, none⟩)] 49) (hs : S ≤ 4096) (hg : 0 < g ∧ g ≤ 64) :
    Calls Tryz.prog 95 #[.int .i64 k, v, .pointer (some ⟨cb, 0, none⟩)] w fun e w' => e = .returned (.bool (decide ((gran S g : Int) ≤ k))) ∧ Fr [] w w' := by
  have cb0 := C.cell
  go_enter Tryz.func95, Tryz.ntmps95
  go_wp2_with fail
  refine (granulesB_calls tb S g _ _ B hs hg).mono ?_
  rintro r w1 ⟨rfl, hf⟩
  go_wp2
  go_ret
  exact ⟨rfl, hf⟩
def cutB (l : List Bool) (G : Nat) : List Bool := (List.range G).map fun k => l.getD k false
theorem cutB_getD (l : List Bool) (G k : Nat) : (cutB l G).getD k false = if k < G then l.getD k false else false := by
  unfold cutB
  rw [List.getD_eq_getElem?_getD, List.getElem?_map]
  by_cases h : k < G
  · rw [List.getElem?_range h, if_pos h]; rfl
  · rw [List.getElem?_eq_none (by simp; omega), if_neg h]; rfl
def keepK (G : Nat) : Value → Prop
  | .int .i64 k => k < G
  | _ => False
theorem bitM_int' (l : List Bool) (x v : Value) (h : bitM l x = some v) : ∃ k : Nat, x = .int .i64 (k : Int) ∧ v = .int .i64 1 ∧ k < l.length := by
  cases x with
  | int q k =>
    cases q with
    | i64 =>
      rw [bitM_int] at h
      by_cases hc : 0 ≤ k ∧ l.getD k.toNat false = true
      · rw [if_pos hc] at h
        refine ⟨k.toNat, by rw [Int.toNat_of_nonneg hc.1], (Option.some.inj h).symm, ?_⟩
        by_cases hl : k.toNat < l.length
        · exact hl
        · have := hc.2
          rw [List.getD_eq_getElem?_getD, List.getElem?_eq_none (by omega)] at this
          cases this
      · rw [if_neg hc] at h
        cases h
    | _ => cases h
  | _ => cases h
theorem bitM_cut (l : List Bool) (G : Nat) (x : Value) : (keepK G x → bitM (cutB l G) x = bitM l x) ∧ (¬ keepK G x → bitM (cutB l G) x = none) := by
  cases x with
  | int q k =>
    cases q with
    | i64 =>
      rw [bitM_int, bitM_int, cutB_getD]
      constructor
      · intro h
        have h : k < G := h
        by_cases h0 : 0 ≤ k
        · rw [if_pos (show k.toNat < G by omega)]
        · rw [if_neg (fun h => h0 h.1), if_neg (fun h => h0 h.1)]
      · intro h
        have h : ¬ k < G := h
        rw [if_neg (show ¬ k.toNat < G by omega), if_neg (by simp)]
    | _ => exact ⟨fun h => h.elim, fun _ => rfl⟩
  | _ => exact ⟨fun h => h.elim, fun _ => rfl⟩
def MidM (l : List Bool) (G : Nat) (L : Value → Prop) (m : Value → Option Value) : Prop := ∀ x, ((L x ∨ keepK G x) → m x = bitM l x) ∧ (¬ (L x ∨ keepK G x) → m x = none)
theorem MidM.start (l : List Bool) (G : Nat) : MidM l G (fun k => (bitM l k).isSome = true) (bitM l) := fun x => ⟨fun _ => rfl, fun h => by
  cases hb : bitM l x with
  | none => rfl
  | some v => exact absurd (.inl (by simp [hb])) h⟩
theorem MidM.keep {l : List Bool} {G : Nat} {L : Value → Prop} {m : Value → Option Value} (h : MidM l G L m) {k : Value} (hk : keepK G k) : MidM l G (fun x => L x ∧ x ≠ k) m := fun x => by
  refine ⟨fun hx => (h x).1 (hx.imp (fun h => h.1) id), fun hx => ?_⟩
  by_cases e : x = k
  · subst e; exact absurd (.inr hk) hx
  · exact (h x).2 (fun h' => hx (h'.imp (fun h => ⟨h, e⟩) id))
theorem MidM.drop {l : List Bool} {G : Nat} {L : Value → Prop} {m : Value → Option Value} (h : MidM l G L m) {k : Value} (hk : ¬ keepK G k) : MidM l G (fun x => L x ∧ x ≠ k) (upd m k none) := fun x => by
  by_cases e : x = k
  · subst e
    exact ⟨fun hx => (hx.elim (fun h => absurd rfl h.2) (fun h => absurd h hk)), fun _ => upd_same _ _ _⟩
  · rw [upd_other _ _ e]
    exact ⟨fun hx => (h x).1 (hx.imp (fun h => h.1) id), fun hx => (h x).2 (fun h' => hx (h'.imp (fun h => ⟨h, e⟩) id))⟩
theorem MidM.done {l : List Bool} {G : Nat} {L : Value → Prop} {m : Value → Option Value} (h : MidM l G L m) (hL : ∀ k, ¬ L k) : m = bitM (cutB l G) := by
  funext x
  by_cases hk : keepK G x
  · rw [(bitM_cut l G x).1 hk, (h x).1 (.inr hk)]
  · rw [(bitM_cut l G x).2 hk, (h x).2 (fun h' => h'.elim (hL x) hk)]
set_option maxRecDepth 100000 in
set_option maxHeartbeats 1600000 in
theorem DeleteFunc_calls (tb mb S g cb : Nat) (l : List Bool) (w : World) (B : Blk w tb [.int .i64 S, .int .i64 g, .map (some mb)] 113) (C : Blk w cb [.pointer (some ⟨tb, 0, none⟩)] 49) (hs : S ≤ 4096) (hg : 0 < g ∧ g ≤ 64)
    (hl : l.length ≤ 4096) {es : Array MapEntry} {clock : Nat} (hm : mapAt w mb = some (es, clock)) (hi : IsM Tryz.prog 3 es clock (bitM l)) :
    Calls Tryz.prog 94 #[.map (some mb), .func (.func 95) #[] #[.pointer (some ⟨cb, 0, none⟩)]] w
      fun e w' => (∃ v, e = .returned v) ∧ Fr [mb] w w' ∧ ∃ es' clock', mapAt w' mb = some (es', clock') ∧ IsM Tryz.prog 3 es' clock' (bitM (cutB l (gran S g))) := by
  have hmt : mb ≠ tb := by rintro rfl; have := (mapAt_some.1 hm).symm.trans B; cases this
  have hmc : mb ≠ cb := by rintro rfl; have := (mapAt_some.1 hm).symm.trans C; cases this
  have hBlt := B.lt
  have hClt := C.lt
  have hMlt := mapAt_lt hm
  have hle := gran_le hs hg.1
  go_enter Tryz.func94, Tryz.ntmps94
  go_wp2_with (first
    | (at_range; refine wpList_range_isM rfl _ _ rfl Tryz.underlying111 hi mb rfl hm ?_; intro hrg0)
    | go_in)
  go_frame
  have hF0 : Fr [mb] w (w.alloc (.mapIter (some mb) clock #[] clock)) := (Fr.refl _ _).alloc _
  go_loopw [4, 5] (fun _ _ wr => ∃ L cnt m, RngM Tryz.prog 3 wr mb w.heap.size m L cnt ∧ MidM l (gran S g) L m ∧ (∀ x, L x → (bitM l x).isSome = true) ∧ Fr [mb] w wr) (fun _ _ wr => wr.rangeLeft mb w.heap.size)
  case atStart => exact ⟨_, _, _, hrg0, MidM.start _ _, fun _ h => h, hF0⟩
  case round =>
    obtain ⟨L, cnt, m, hrg, hM, hLs, hF⟩ := hrel
    have hleft := hidIt hrg.left
    generalize wr = wo at *
    go_wp2_with (first
      | (at_next; refine wpList_next_isM rfl _ rfl mb w.heap.size rfl hrg ?_ ?_)
      | go_in)
    · intro hL
      go_wp2
      refine bodyPost_end (v := .tuple #[]) (results_none rfl _ _ _) rfl ⟨⟨_, rfl⟩, hF, ?_⟩
      obtain ⟨es', clock', h1, h2⟩ := hrg.map
      rw [hM.done hL] at h2
      exact ⟨es', clock', h1, h2⟩
    · intro k v w1 cnt1 hLk hmk hrg1 hlt hf1 hsz1 hen
      rw [(hM k).1 (.inl hLk)] at hmk
      obtain ⟨n, rfl, rfl, hnl⟩ := bitM_int' l k v hmk
      have hF1 : Fr [mb] w w1 := hF.trans1 hf1 (Nat.le_refl _)
      have B1 := B.fr hF1 (by simp; exact fun e => hmt e.symm)
      have C1 := C.fr hF1 (by simp; exact fun e => hmc e.symm)
      have hkey := keyI (k := (n : Int)) (by omega) (by omega)
      have hK1 := fun h => hidIt (hM.keep (k := .int .i64 (n : Int)) h)
      have hK2 := fun h => hidIt (hM.drop (k := .int .i64 (n : Int)) h)
      have hLs' : ∀ x, (L x ∧ x ≠ .int .i64 (n : Int)) → (bitM l x).isSome = true := fun x h => hLs x h.1
      by_cases hd : gran S g ≤ n
      · have hK2 := hK2 (show ¬ (n : Int) < (gran S g : Nat) by omega)
        have hd' : decide ((gran S g : Int) ≤ (n : Int)) = true := by simp; exact hd
        clear hK1 hM hmk
        go_wp2_with fail
        refine (resize1_calls tb mb S g cb n _ _ B1 C1 hs hg).mono ?_
        rintro r w2 ⟨rfl, hf2⟩
        rw [hd']
        have hrg2 := hrg1.fr0 hf2
        clear hen
        go_wp2_with (first
          | (at_delete; refine wpList_delete_rng rfl _ _ 111 3 rfl Tryz.underlying111 keyInt mb w.heap.size hrg2 rfl (.int .i64 (n : Int)) rfl hkey (fun h => h.2 rfl) ?_; intro w3 cnt3 hrg3 hle3 hf3 hsz3; go_frame)
          | go_in)
        go_roundw
        case rel => exact ⟨_, _, _, hrg3, hK2.out, hLs', (hF1.trans0 hf2).trans' hf3⟩
        case measure => rw [hrg3.left, hleft.out]; omega
      · have hK1 := hK1 (show (n : Int) < (gran S g : Nat) by omega)
        have hd' : decide ((gran S g : Int) ≤ (n : Int)) = false := by simp; omega
        clear hK2 hM hmk
        go_wp2_with fail
        refine (resize1_calls tb mb S g cb n _ _ B1 C1 hs hg).mono ?_
        rintro r w2 ⟨rfl, hf2⟩
        rw [hd']
        have hrg2 := hrg1.fr0 hf2
        clear hen
        go_wp2
        go_roundw
        case rel => exact ⟨_, _, _, hrg2, hK1.out, hLs', hF1.trans0 hf2⟩
        case measure => rw [hrg2.left, hleft.out]; omega
end Go.Proofs.YtiifmakhfpllnaaGreat

namespace Go.Proofs.YtiifmakhfpllnaaGreat
open Go.RowKit Go.Maps
attribute [local go_sem] mapAt_alloc mapAt_setCell mapAt_drew mapAt_drewN

def rzB (S g : Nat) (l : List Bool) (n : Nat) : List Bool := if S < n then bSet n g (cutB l (gran n g)) S (n - S) else cutB l (gran n g)
theorem cutB_len (l : List Bool) (G : Nat) : (cutB l G).length = G := by simp [cutB]
set_option maxHeartbeats 400000 in
theorem Resize_no (tb mb S g : Nat) (l : List Bool) (s : Int) (w : World) (_ : BitW w tb mb S g l) (hs : okSec s = false) :
    Calls Tryz.prog 83 #[.pointer (some ⟨tb, 0, none⟩), .int .i64 s] w fun r w' => r = .returned (.int .i64 1) ∧ Fr [] w w' := by
  go_enter Tryz.func83, Tryz.ntmps83
  go_wp2_with fail
  refine (right_calls _ _).mono ?_
  rintro e w1 ⟨rfl, rfl⟩
  rw [hs]
  go_wp2
  go_ret
  exact ⟨rfl, (Fr.refl _ _).alloc _⟩
set_option maxRecDepth 100000 in
set_option maxHeartbeats 1600000 in
theorem Resize_yes (tb mb S g : Nat) (l : List Bool) (n : Nat) (w : World) (h : BitW w tb mb S g l) (hn : n ≤ 4096) :
    Calls Tryz.prog 83 #[.pointer (some ⟨tb, 0, none⟩), .int .i64 (n : Int)] w fun r w' => r = .returned (.int .i64 0) ∧ BitW w' tb mb n g (rzB S g l n) ∧ Fr [tb, mb] w w' := by
  have hS := h.size
  have hg := h.grain
  have hlen := h.len
  have hle := gran_le h.size hg.1
  obtain ⟨hlt, hmlt⟩ := h.lt
  have hne := h.ne
  have hok : okSec n = true := by simp [okSec]; omega
  have B2 := Blk.new w [.pointer (some ⟨tb, 0, none⟩)] 49
  have c2 := B2.cell
  have B0 := h.blk.alloc (.cells #[.pointer (some ⟨tb, 0, none⟩)] 49)
  have ct := B0.cell
  have ft := B0.frozen
  obtain ⟨es, clock, hm, hi⟩ := h.map
  have Hrz : Hid (rzB S g l n = if S < n then bSet n g (cutB l (gran n g)) S (n - S) else cutB l (gran n g)) := hidIt (by unfold rzB; rfl)
  go_enter Tryz.func83, Tryz.ntmps83
  go_wp2_with fail
  refine (right_calls _ _).mono ?_
  rintro e w1 ⟨rfl, rfl⟩
  rw [hok]
  have Bn := (h.blk.setCell 0 (.int .i64 (n : Int))).alloc (.cells #[.pointer (some ⟨tb, 0, none⟩)] 49)
  have Cn := Blk.new' (w := w.setCell ⟨tb, 0, none⟩ (.int .i64 (n : Int))) (n := w.heap.size) (by simp) [.pointer (some ⟨tb, 0, none⟩)] 49
  have cn := Bn.cell
  have dn := Cn.cell
  simp only [List.set_cons_zero] at Bn cn
  have hfn : Fr [tb] w ((w.setCell ⟨tb, 0, none⟩ (.int .i64 (n : Int))).alloc (.cells #[.pointer (some ⟨tb, 0, none⟩)] 49)) := ((Fr.refl _ w).setCell (.inl (by simp)) _).alloc _
  have hmn := mapAt_fr hm hfn (by simp; exact fun e => hne e.symm)
  go_wp2_with fail
  refine (DeleteFunc_calls tb mb n g w.heap.size l _ Bn Cn hn hg (by omega) hmn hi).mono ?_
  rintro r w2 ⟨⟨v, rfl⟩, hf2, es', clock', hm2, hi2⟩
  have hF2 : Fr [tb, mb] w w2 := (hfn.mono (by simp)).trans hf2 (by simp)
  have W2 : BitW w2 tb mb n g (cutB l (gran n g)) := ⟨Bn.fr hf2 (by simp; exact hne), hn, hg, cutB_len _ _, es', clock', hm2, hi2⟩
  have C2 := (Cn.fr hf2 (by simp; omega)).cell
  clear hfn hmn hm hi hi2 hm2
  by_cases hlt2 : S < n
  · rw [if_pos hlt2] at Hrz
    have e1 : (n : Int) - S = ((n - S : Nat) : Int) := by omega
    go_wp2_with fail
    refine (Set_yes tb mb n g _ S (n - S) _ W2 (by omega)).mono ?_
    rintro r w3 ⟨rfl, hW3, hf3⟩
    go_wp2
    go_ret
    exact ⟨rfl, by rw [Hrz.out]; exact hW3, hF2.trans hf3 (by simp)⟩
  · rw [if_neg hlt2] at Hrz
    go_wp2
    go_ret
    exact ⟨rfl, by rw [Hrz.out]; exact W2, hF2⟩
instance (S : Nat) (f n : Int) : Decidable (insideB S f n) := inferInstanceAs (Decidable (_ ∧ _ ∧ _ ∧ _))
/-- a call of a script: what there is behind it, and what it answers -/
def doS (g : Nat) (st : Nat × List Bool) (o : Int × Int × Int) : (Nat × List Bool) × Int :=
  if o.1 = 0 then (if insideB st.1 o.2.1 o.2.2 then ((st.1, bSet st.1 g st.2 o.2.1.toNat o.2.2.toNat), 0) else (st, 1))
  else if o.1 = 1 then (if insideB st.1 o.2.1 o.2.2 then ((st.1, bClear st.1 g st.2 o.2.1.toNat o.2.2.toNat), 0) else (st, 1))
  else if o.1 = 2 then (if okSec o.2.2 = true then ((o.2.2.toNat, rzB st.1 g st.2 o.2.2.toNat), 0) else (st, 1))
  else (st, 0)
theorem Set_calls (tb mb S g : Nat) (l : List Bool) (f n : Int) (w : World) (h : BitW w tb mb S g l) (fw : -9223372036854775808 ≤ n ∧ n ≤ 9223372036854775807) :
    Calls Tryz.prog 43 #[.pointer (some ⟨tb, 0, none⟩), .int .i64 f, .int .i64 n] w
      fun r w' => r = .returned (.int .i64 (doS g (S, l) (0, f, n)).2) ∧ BitW w' tb mb (doS g (S, l) (0, f, n)).1.1 g (doS g (S, l) (0, f, n)).1.2 ∧ Fr [mb] w w' := by
  by_cases hin : insideB S f n
  · obtain ⟨f, rfl⟩ := Int.eq_ofNat_of_zero_le hin.2.1
    obtain ⟨n, rfl⟩ := Int.eq_ofNat_of_zero_le hin.1
    have e : doS g (S, l) (0, (f : Int), (n : Int)) = ((S, bSet S g l f n), 0) := by simp [doS, hin]
    rw [e]
    exact Set_yes tb mb S g l f n w h (by have h1 := hin.2.2.1; have h2 := hin.2.2.2; omega)
  · have e : doS g (S, l) (0, f, n) = ((S, l), 1) := by simp [doS, hin]
    rw [e]
    refine (Set_no tb mb S g l f n w h fw hin).mono ?_
    rintro r w1 ⟨rfl, hf⟩
    exact ⟨rfl, h.fr0 hf, hf.weak⟩
theorem Clear_calls (tb mb S g : Nat) (l : List Bool) (f n : Int) (w : World) (h : BitW w tb mb S g l) (fw : -9223372036854775808 ≤ n ∧ n ≤ 9223372036854775807) :
    Calls Tryz.prog 80 #[.pointer (some ⟨tb, 0, none⟩), .int .i64 f, .int .i64 n] w
      fun r w' => r = .returned (.int .i64 (doS g (S, l) (1, f, n)).2) ∧ BitW w' tb mb (doS g (S, l) (1, f, n)).1.1 g (doS g (S, l) (1, f, n)).1.2 ∧ Fr [mb] w w' := by
  by_cases hin : insideB S f n
  · obtain ⟨f, rfl⟩ := Int.eq_ofNat_of_zero_le hin.2.1
    obtain ⟨n, rfl⟩ := Int.eq_ofNat_of_zero_le hin.1
    have e : doS g (S, l) (1, (f : Int), (n : Int)) = ((S, bClear S g l f n), 0) := by simp [doS, hin]
    rw [e]
    exact Clear_yes tb mb S g l f n w h (by have h1 := hin.2.2.1; have h2 := hin.2.2.2; omega)
  · have e : doS g (S, l) (1, f, n) = ((S, l), 1) := by simp [doS, hin]
    rw [e]
    refine (Clear_no tb mb S g l f n w h fw hin).mono ?_
    rintro r w1 ⟨rfl, hf⟩
    exact ⟨rfl, h.fr0 hf, hf.weak⟩
theorem Resize_calls (tb mb S g : Nat) (l : List Bool) (f n : Int) (w : World) (h : BitW w tb mb S g l) :
    Calls Tryz.prog 83 #[.pointer (some ⟨tb, 0, none⟩), .int .i64 n] w
      fun r w' => r = .returned (.int .i64 (doS g (S, l) (2, f, n)).2) ∧ BitW w' tb mb (doS g (S, l) (2, f, n)).1.1 g (doS g (S, l) (2, f, n)).1.2 ∧ Fr [tb, mb] w w' := by
  by_cases hin : okSec n = true
  · have hb : 0 ≤ n ∧ n ≤ 4096 := by simpa [okSec] using hin
    obtain ⟨n, rfl⟩ := Int.eq_ofNat_of_zero_le hb.1
    have e : doS g (S, l) (2, f, (n : Int)) = ((n, rzB S g l n), 0) := by simp [doS, hin]
    rw [e]
    exact Resize_yes tb mb S g l n w h (by omega)
  · have e : doS g (S, l) (2, f, n) = ((S, l), 1) := by simp [doS, hin]
    rw [e]
    refine (Resize_no tb mb S g l n w h (by simpa using hin)).mono ?_
    rintro r w1 ⟨rfl, hf⟩
    exact ⟨rfl, h.fr0 hf, hf.weak⟩
def goodOp (o : Int × Int × Int) : Prop := (-9223372036854775808 ≤ o.2.2 ∧ o.2.2 ≤ 9223372036854775807) ∧ (-9223372036854775808 ≤ o.2.1 ∧ o.2.1 ≤ 9223372036854775807)
def op3 (o : Int × Int × Int) : Value := .agg #[.int .i64 o.1, .int .i64 o.2.1, .int .i64 o.2.2]
end Go.Proofs.YtiifmakhfpllnaaGreat

namespace Go.Proofs.YtiifmakhfpllnaaGreat
open Go.RowKit Go.Maps
attribute [local go_sem] mapAt_alloc mapAt_setCell mapAt_drew mapAt_drewN

/-- every granule that is dirty here is so there -/
def subB (l l' : List Bool) : Prop := ∀ k, l.getD k false = true → l'.getD k false = true
theorem cnt_sub {l l' : List Bool} (hl : l.length = l'.length) (hc : cnt l = cnt l') (hs : subB l l') : l = l' := by
  have hsub : ((List.range l.length).filter fun k => l.getD k false).Sublist ((List.range l.length).filter fun k => l'.getD k false) := by
    have h1 : ((List.range l.length).filter fun k => l.getD k false) = (((List.range l.length).filter fun k => l'.getD k false).filter fun k => l.getD k false) := by
      rw [List.filter_filter]
      refine List.filter_congr fun k _ => ?_
      cases h : l.getD k false with
      | false => rfl
      | true => rw [hs k h]; rfl
    rw [h1]
    exact List.filter_sublist
  have heq := hsub.eq_of_length (by unfold cnt at hc; rw [hl] at hc ⊢; exact hc)
  refine extB hl fun i hi => ?_
  have := congrArg (fun L => decide (i ∈ L)) heq
  simp only [List.mem_filter, List.mem_range, hi, true_and] at this
  rw [Bool.eq_iff_iff]
  simpa using this
def sameB (S g : Nat) (l : List Bool) (S' g' : Nat) (l' : List Bool) : Bool := decide (S = S') && decide (g = g') && decide (l = l')
end Go.Proofs.YtiifmakhfpllnaaGreat
