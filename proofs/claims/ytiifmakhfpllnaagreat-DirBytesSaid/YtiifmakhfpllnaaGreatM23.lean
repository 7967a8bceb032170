/-
  Package octets: the Reader.
-/
import Derived.Test.YtiifmakhfpllnaaGreatM09
import Derived.Test.YtiifmakhfpllnaaGreatM01
import Derived.Test.YtiifmakhfpllnaaGreatM18
import Derived.Laws.BitsAllLaws
namespace Go.Proofs.YtiifmakhfpllnaaGreat
open Go.RowKit Go.Maps

theorem ownBlock_slice {a : Option Addr} {n c k : Nat} (h : (Value.slice a n c).ownBlock = some k) : ∃ p, a = some p ∧ p.block = k := by
  cases a with
  | none => cases h
  | some p => exact ⟨p, rfl, by simpa [Value.ownBlock] using h⟩
/-- In block rb lies a Reader: the bytes that are left (in block vb), its error. -/
structure RdW (w : World) (rb vb : Nat) (l : List UInt8) (e : Int) : Prop where
  ex : ∃ v, Blk w rb [v, .int .i64 e] 118 ∧ SlY w v l ∧ ∀ k, v.ownBlock = some k → k = vb
  ne : vb ≠ rb
theorem RdW.fr {L : List Nat} {w w' : World} {rb vb : Nat} {l : List UInt8} {e : Int} (h : RdW w rb vb l e) (hf : Fr L w w') (h1 : rb ∉ L) (h2 : vb ∉ L) : RdW w' rb vb l e := by
  obtain ⟨v, hb, hs, hv⟩ := h.ex
  exact ⟨⟨v, hb.fr hf h1, SlF.fr hs hf (fun k hk => by rw [hv k hk]; exact h2), hv⟩, h.ne⟩
theorem RdW.fr0 {w w' : World} {rb vb : Nat} {l : List UInt8} {e : Int} (h : RdW w rb vb l e) (hf : Fr [] w w') : RdW w' rb vb l e := h.fr hf (by simp) (by simp)
theorem RdW.lt {w : World} {rb vb : Nat} {l : List UInt8} {e : Int} (h : RdW w rb vb l e) : rb < w.heap.size := by
  obtain ⟨v, hb, _, _⟩ := h.ex
  exact hb.lt
/-! ### plain -/
/-- what is taken: what is left, the error, the bytes -/
def rdTake (l : List UInt8) (e n : Int) (am : Bool) : List UInt8 × Int × List UInt8 :=
  if e ≠ 0 then (l, e, []) else if am = true then (l, 1, []) else if (l.length : Int) < n then (l, 10, []) else (l.drop n.toNat, 0, l.take n.toNat)
def rdNum (l : List UInt8) (e : Int) (W : Nat) : List UInt8 × Int × Nat :=
  if e ≠ 0 then (l, e, 0) else if l.length < W then (l, 10, 0) else (l.drop W, 0, valL (l.take W))
def rdEnd (l : List UInt8) (e : Int) : Int := if e = 0 ∧ 0 < l.length then 11 else e
/-! ### the calls -/
set_option maxRecDepth 100000 in
set_option maxHeartbeats 1600000 in
theorem NewReader_calls (v : Value) (l : List UInt8) (w : World) (hs : SlY w v l) (hok : okV v) (hl : l.length ≤ 4294967296) :
    Calls Tryz.prog 22 #[v] w fun e w' => ∃ rb vb, e = .returned (.pointer (some ⟨rb, 0, none⟩)) ∧ w.heap.size ≤ vb ∧ vb < rb ∧ RdW w' rb vb l 0 ∧ Fr [] w w' := by
  obtain ⟨a, cap, rfl, _, _, _⟩ := hs.open
  go_enter Tryz.func22, Tryz.ntmps22
  go_wp2_with (at_builtin; refine Hid.out ?_)
  refine hidIt ?_
  refine wpList_append_slL 23 5 (.int .u8 0) 1 1 Tryz.underlying23 infoY rfl (by decide) (by decide) rfl _ _ rfl w.heap.size _ 0 _ rfl (World.ownsRow_made w _ 0 (Nat.le_refl _) (by decide) rfl) _ l.length (l.flatMap byC) (Sl.fr0 hs ((Fr.refl _ _).alloc _)) hok (by rw [flatY_length, Nat.mul_one]) (flat_one (fun _ => by_one) l) rfl (by omega) (by omega) (by simp) ?_
  intro v2 w2 hown2 hgrow2 hloc2
  rw [Nat.zero_add, List.nil_append] at hown2
  obtain ⟨a2, c2, rfl, _⟩ := Sl.of_owns hown2
  have hF2 : Fr [] w w2 := ((Fr.refl [] w).alloc _).grown hgrow2 (fun x hx => .inr (by cases hx; exact Nat.le_refl _))
  go_wp2
  go_ret
  have hlt2 := hown2.lt
  have hob := own_base hown2
  have hfb := (Fr.refl [] w2).alloc (.cells #[.slice a2 l.length c2, .int .i64 0] 118)
  have hz : w.heap.size + 1 ≤ w2.heap.size := by have := hgrow2.size; simp at this; omega
  have hvb : ((Value.slice a2 l.length c2).ownBlock).getD w.heap.size < w2.heap.size ∧ w.heap.size ≤ ((Value.slice a2 l.length c2).ownBlock).getD w.heap.size := by
    cases h : (Value.slice a2 l.length c2).ownBlock with
    | none => simp; omega
    | some k => exact ⟨(hlt2 k h).2, hob k h⟩
  exact ⟨w2.heap.size, ((Value.slice a2 l.length c2).ownBlock).getD w.heap.size, rfl, hvb.2, hvb.1, ⟨⟨_, Blk.new w2 [_, _] _, SlF.fr0 (SlF.of_owns hown2) hfb, fun k hk => by rw [hk]; rfl⟩, Nat.ne_of_lt hvb.1⟩, hF2.trans0 hfb⟩
theorem Err_calls (rb vb : Nat) (l : List UInt8) (e : Int) (w : World) (h : RdW w rb vb l e) : Calls Tryz.prog 66 #[.pointer (some ⟨rb, 0, none⟩)] w fun e' w' => e' = .returned (.int .i64 e) ∧ w = w' := by
  obtain ⟨v, hb, hs, _⟩ := h.ex
  obtain ⟨a, cap, rfl, _, _, _⟩ := hs.open
  have c := hb.cell
  go_enter Tryz.func66, Tryz.ntmps66
  go_wp2
  go_ret
  exact ⟨rfl, rfl⟩
theorem End_calls (rb vb : Nat) (l : List UInt8) (e : Int) (w : World) (h : RdW w rb vb l e) : Calls Tryz.prog 26 #[.pointer (some ⟨rb, 0, none⟩)] w fun e' w' => e' = .returned (.int .i64 (rdEnd l e)) ∧ w = w' := by
  obtain ⟨v, hb, hs, _⟩ := h.ex
  obtain ⟨a, cap, rfl, _, _, _⟩ := hs.open
  have c := hb.cell
  unfold rdEnd
  by_cases he : e = 0
  · subst he
    by_cases hl : 0 < l.length
    · rw [if_pos ⟨rfl, hl⟩]
      have hl' : (0 : Int) < (l.length : Int) := by omega
      go_enter Tryz.func26, Tryz.ntmps26
      go_wp2
      go_ret
      exact ⟨rfl, rfl⟩
    · rw [if_neg (fun h => hl h.2)]
      have hl' : ¬ (0 : Int) < (l.length : Int) := by omega
      go_enter Tryz.func26, Tryz.ntmps26
      go_wp2
      go_ret
      exact ⟨rfl, rfl⟩
  · rw [if_neg (fun h => he h.1)]
    have he' : (e == 0) = false := by simpa using he
    go_enter Tryz.func26, Tryz.ntmps26
    go_wp2
    go_ret
    exact ⟨rfl, rfl⟩
theorem keep_calls (bx rb vb : Nat) (l : List UInt8) (e0 : Int) (w : World) (h : RdW w rb vb l 0) (B : Blk w bx [.pointer (some ⟨rb, 0, none⟩)] 60) (_ : bx ≠ rb) :
    Calls Tryz.prog 90 #[.int .i64 e0, .pointer (some ⟨bx, 0, none⟩)] w fun e' w' => e' = .returned (.slice none 0 0) ∧ RdW w' rb vb l e0 ∧ Fr [rb] w w' := by
  obtain ⟨v, hb, hs, hv⟩ := h.ex
  have hne := h.ne
  have c := hb.cell
  have f := hb.frozen
  have l1 := hb.lt
  have cb := B.cell
  go_enter Tryz.func90, Tryz.ntmps90
  go_wp2
  go_ret
  have hs1 : Fr [rb] w (w.setCell ⟨rb, 1, none⟩ (.int .i64 e0)) := (Fr.refl _ w).setCell (.inl (by simp)) _
  exact ⟨rfl, ⟨⟨v, hb.setCell 1 (.int .i64 e0), SlF.fr hs hs1 (fun k hk => by rw [hv k hk]; simpa using hne), hv⟩, hne⟩, hs1⟩
theorem take_pos {l : List UInt8} {n : Nat} (h : n ≤ l.length) : (l.take n).length = n := by simp; omega
set_option maxRecDepth 100000 in
set_option maxHeartbeats 1600000 in
theorem take_calls (rb vb : Nat) (l : List UInt8) (e n : Int) (am : Bool) (w : World) (h : RdW w rb vb l e) (hn : am = false → 0 ≤ n) :
    Calls Tryz.prog 64 #[.pointer (some ⟨rb, 0, none⟩), .int .i64 n, .bool am] w
      fun e' w' => ∃ x, e' = .returned x ∧ SlY w' x (rdTake l e n am).2.2 ∧ (∀ k, x.ownBlock = some k → k = vb) ∧ RdW w' rb vb (rdTake l e n am).1 (rdTake l e n am).2.1 ∧ Fr [rb] w w' := by
  have hl1 := h.lt
  have hfa := (Fr.refl [] w).alloc (.cells #[.pointer (some ⟨rb, 0, none⟩)] 60)
  have hA := h.fr0 hfa
  have B3 := Blk.new w [.pointer (some ⟨rb, 0, none⟩)] 60
  obtain ⟨v, hb, hs, hv⟩ := hA.ex
  obtain ⟨a, cap, rfl, hlc, hcm, _⟩ := hs.open
  have hne := h.ne
  have c := hb.cell
  have f := hb.frozen
  have l1 := hb.lt
  have c3 := B3.cell
  by_cases he : e = 0
  · subst he
    cases am with
    | true =>
      have e0 : rdTake l 0 n true = (l, 1, []) := by simp [rdTake]
      rw [e0]
      have key := keep_calls w.heap.size rb vb l 1 _ hA B3 (by omega)
      go_enter Tryz.func64, Tryz.ntmps64
      go_wp2_with fail
      refine key.mono ?_
      rintro e w1 ⟨rfl, hR, hf⟩
      go_wp2
      go_ret
      exact ⟨_, rfl, Sl.nil _, by simp [Value.ownBlock], hR, hfa.weak.trans' hf⟩
    | false =>
      obtain ⟨N, rfl⟩ : ∃ N : Nat, n = (N : Int) := ⟨n.toNat, by have := hn rfl; omega⟩
      by_cases hlen : (l.length : Int) < (N : Int)
      · have e0 : rdTake l 0 (N : Int) false = (l, 10, []) := by unfold rdTake; rw [if_neg (by simp), if_neg (by simp), if_pos hlen]
        rw [e0]
        have key := keep_calls w.heap.size rb vb l 10 _ hA B3 (by omega)
        go_enter Tryz.func64, Tryz.ntmps64
        go_wp2_with fail
        refine key.mono ?_
        rintro e w1 ⟨rfl, hR, hf⟩
        go_wp2
        go_ret
        exact ⟨_, rfl, Sl.nil _, by simp [Value.ownBlock], hR, hfa.weak.trans' hf⟩
      · have e0 : rdTake l 0 (N : Int) false = (l.drop N, 0, l.take N) := by unfold rdTake; rw [if_neg (by simp), if_neg (by simp), if_neg hlen]; simp
        rw [e0]
        clear hn
        have hNl : N ≤ l.length := by omega
        go_enter Tryz.func64, Tryz.ntmps64
        go_wp2_with fail
        generalize hW1 : w.alloc (.cells #[.pointer (some ⟨rb, 0, none⟩)] 60) = W1 at *
        clear hW1 B3
        refine wp_region_still_tail 9 (by kernel_rfl) (by as_aux_lemma => kernel_rfl) ?_
        simp only [List.take_succ_cons, List.take_zero, List.drop_succ_cons, List.drop_zero]
        change wpStill _ _ (World.drew _) _ _ _
        have cd : ∀ o, W1.drew.cell? ⟨rb, o, none⟩ = [Value.slice a l.length cap, .int .i64 0][o]? := c
        have c3d : ∀ o, W1.drew.cell? ⟨w.heap.size, o, none⟩ = [Value.pointer (some ⟨rb, 0, none⟩)][o]? := c3
        iterate 6 still_step
        refine wpStill_value rfl (.slice (slAddr a cap N 1) (l.length - N) (cap - N)) (by have cc := cut_from (P := Tryz.prog) (w := W1.drew) 23 5 1 Tryz.underlying23 (by kernel_rfl) a l.length cap N hNl; go_simp) ?_
        iterate 2 still_step
        refine wpStill_nil ?_
        change wpList _ _ _ _ _ (World.drew _)
        go_wp2
        go_ret
        have hsx := (SlF.to 1 (fun _ => rfl) hs hNl)
        have hsd := (SlF.from 1 (fun _ => rfl) hs hNl)
        have hs1 : Fr [rb] w (W1.drew.setCell ⟨rb, 0, none⟩ (.slice (slAddr a cap N 1) (l.length - N) (cap - N))) := hfa.weak.drew.setCell (.inl (by simp)) _
        have hs2 : Fr [rb] W1 (W1.drew.setCell ⟨rb, 0, none⟩ (.slice (slAddr a cap N 1) (l.length - N) (cap - N))) := (Fr.refl _ W1).drew.setCell (.inl (by simp)) _
        have hva : ∀ p, a = some p → p.block = vb := fun p hp => hv _ (by simp [Value.ownBlock, hp])
        have hvs : ∀ p, slAddr a cap N 1 = some p → p.block = vb := fun p hp => by
          unfold slAddr at hp
          split at hp
          · exact hva p hp
          · cases a with
            | none => cases hp
            | some q => simp at hp; subst hp; have := hva q rfl; unfold Addr.add; split <;> simp_all
        refine ⟨_, rfl, SlF.fr hsx hs2 ?_, ?_, ⟨⟨_, (hb.drew).setCell 0 _, SlF.fr hsd hs2 ?_, ?_⟩, hne⟩, hs1⟩
        · intro k hk; obtain ⟨p, hp, rfl⟩ := ownBlock_slice hk; rw [hva p hp]; simpa using hne
        · intro k hk; obtain ⟨p, hp, rfl⟩ := ownBlock_slice hk; exact hva p hp
        · intro k hk; obtain ⟨p, hp, rfl⟩ := ownBlock_slice hk; rw [hvs p hp]; simpa using hne
        · intro k hk; obtain ⟨p, hp, rfl⟩ := ownBlock_slice hk; exact hvs p hp
  · have e0 : rdTake l e n am = (l, e, []) := by simp [rdTake, he]
    rw [e0]
    have heb : (e == 0) = false := by simpa using he
    go_enter Tryz.func64, Tryz.ntmps64
    go_wp2
    go_ret
    exact ⟨_, rfl, Sl.nil _, by simp [Value.ownBlock], hA, hfa.weak⟩
theorem or_form (V C : Nat) (hV : V < 16777216) (hC : C < 256) : bits .or .i64 ((V : Int) * 256) (C : Int) = ((V * 256 + C : Nat) : Int) := by
  have h1 : ((V : Int) * 256) = ((V * 256 : Nat) : Int) := by simp
  have e1 : (BitVec.ofInt 64 ((V * 256 : Nat) : Int)).toNat = V * 256 := by rw [BitVec.toNat_ofInt]; omega
  have e2 : (BitVec.ofInt 64 (C : Int)).toNat = C := by rw [BitVec.toNat_ofInt]; omega
  have e3 : V * 256 ||| C = V * 256 + C := nat_join 8 _ _ (by omega) hC
  rw [h1]
  show IntKind.i64.wrap ((BitVec.ofInt 64 ((V * 256 : Nat) : Int) ||| BitVec.ofInt 64 (C : Int)).toNat : Int) = _
  rw [BitVec.toNat_or, e1, e2, e3]
  exact IntWalk.i64_in _ (by omega)
theorem valL_snoc_int (l : List UInt8) (b : UInt8) : ((valL (l ++ [b]) : Nat) : Int) = (valL l : Int) * 256 + (b.toNat : Int) := by rw [valL_snoc]; simp
set_option maxRecDepth 100000 in
set_option maxHeartbeats 1600000 in
theorem Num_calls (W : Nat) (hW : W = 1 ∨ W = 2 ∨ W = 4) (rb vb : Nat) (l : List UInt8) (e : Int) (w : World) (h : RdW w rb vb l e) :
    Calls Tryz.prog 23 #[.pointer (some ⟨rb, 0, none⟩), .int .i64 (W : Int)] w
      fun e' w' => e' = .returned (.int .i64 ((rdNum l e W).2.2 : Int)) ∧ RdW w' rb vb (rdNum l e W).1 (rdNum l e W).2.1 ∧ Fr [rb] w w' := by
  have kR := fun w => oRight_calls (W : Int) (by omega) w
  have kT := fun X h => take_calls rb vb l e (W : Int) false X h (fun _ => by omega)
  obtain ⟨x, hx⟩ : ∃ x, (rdTake l e (W : Int) false).2.2 = x := ⟨_, rfl⟩
  have hxl : x.length = 0 ∨ x.length = W := by
    rw [← hx]; unfold rdTake
    split
    · exact .inl rfl
    · split
      · exact .inl rfl
      · split
        · exact .inl rfl
        · right; simp; omega
  have hres : rdNum l e W = ((rdTake l e (W : Int) false).1, (rdTake l e (W : Int) false).2.1, valL x) := by
    rw [← hx]
    by_cases he : e = 0
    · by_cases hl : l.length < W
      · have hl' : (l.length : Int) < (W : Int) := by omega
        simp [rdNum, rdTake, he, hl, hl', valL]
      · have hl' : ¬ (l.length : Int) < (W : Int) := by omega
        simp [rdNum, rdTake, he, hl]
    · simp [rdNum, rdTake, he, valL]
  rw [hres]
  rw [hx] at kT
  simp only
  generalize (rdTake l e (W : Int) false).1 = l2 at *
  generalize (rdTake l e (W : Int) false).2.1 = e2 at *
  clear hres hx
  go_enter Tryz.func23, Tryz.ntmps23
  go_wp2_with fail
  refine (kR _).mono ?_
  rintro e w1 ⟨rfl, rfl⟩
  go_wp2_with fail
  refine (kT _ h).mono ?_
  rintro e w1 ⟨v, rfl, hs, hv, hR, hf⟩
  obtain ⟨a, cap, rfl, hlc, hcm, _⟩ := hs.open
  have hx8 : ¬ (x.length : Int) = 8 := by omega
  have hx8b : ((x.length : Int) == 8) = false := by simpa using hx8
  have hx4 : x.length ≤ 4 := by omega
  clear kR kT h hxl hx8
  go_wp2
  go_loopw [5, 29] (fun r i wr => ∃ k : Nat, k ≤ x.length ∧ i = .int .i64 k ∧ r = .int .i64 (valL (x.take k) : Int) ∧ w1 = wr) (fun _ i _ => x.length - (intOf i).toNat)
  case atStart => exact ⟨0, Nat.zero_le _, rfl, rfl, rfl⟩
  case round =>
    obtain ⟨k, hk, rfl, rfl, rfl⟩ := hrel
    by_cases hlt : k < x.length
    · obtain ⟨b, off, rfl, hb, c0⟩ := SlY.at hs hlt
      have Hst : Hid (x.take (k + 1) = x.take k ++ [x.getD k 0]) := hidIt (by
        have hg : x[k] = x.getD k 0 := by rw [List.getD_eq_getElem?_getD, List.getElem?_eq_getElem hlt]; rfl
        rw [List.take_succ_eq_append_getElem hlt, hg])
      have hvl := valL_lt (x.take k)
      have htk : (x.take k).length = k := by simp; omega
      rw [htk] at hvl
      have hk3 : k ≤ 3 := by omega
      have hv3 : valL (x.take k) < 16777216 := Nat.lt_of_lt_of_le hvl (by have := Nat.pow_le_pow_right (n := 256) (by omega) hk3; exact this)
      have hbyte := (x.getD k 0).toNat_lt
      generalize x.getD k 0 = c at *
      generalize hvv : valL (x.take k) = V at *
      generalize hcc : c.toNat = C at *
      go_wp2
      rw [or_form V C hv3 hbyte]
      go_roundw
      case rel => exact ⟨k + 1, by omega, by go_num, by rw [Hst.out, valL_snoc, hvv, hcc], trivial⟩
      case measure => simp [intOf]; omega
    · have hke : k = x.length := by omega
      subst hke
      rw [List.take_length]
      go_wp2
      go_ret
      exact ⟨rfl, hR, hf⟩
end Go.Proofs.YtiifmakhfpllnaaGreat
