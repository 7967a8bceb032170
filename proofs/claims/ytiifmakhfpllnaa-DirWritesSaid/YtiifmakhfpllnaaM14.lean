/-
  Package octets: the Reader.
-/
import Derived.Test.YtiifmakhfpllnaaM13
import Derived.Test.YtiifmakhfpllnaaM12
import Derived.Laws.BitsAllLaws
import Derived.Lib.AppendStr
import Derived.Test.YtiifmakhfpllnaaM03
import Derived.Test.YtiifmakhfpllnaaM01
namespace Go.Proofs.Ytiifmakhfpllnaa
open Go.RowKit Go.Maps

theorem ownBlock_slice {a : Option Addr} {n c k : Nat} (h : (Value.slice a n c).ownBlock = some k) : ∃ p, a = some p ∧ p.block = k := by
  cases a with
  | none => cases h
  | some p => exact ⟨p, rfl, by simpa [Value.ownBlock] using h⟩
/-- In block rb lies a Reader: the bytes that are left (in block vb), its error. -/
structure RdW (w : World) (rb vb : Nat) (l : List UInt8) (e : Int) : Prop where
  ex : ∃ v, Blk w rb [v, .int .i64 e] 124 ∧ SlY w v l ∧ ∀ k, v.ownBlock = some k → k = vb
  ne : vb ≠ rb
theorem RdW.fr {L : List Nat} {w w' : World} {rb vb : Nat} {l : List UInt8} {e : Int} (h : RdW w rb vb l e) (hf : Fr L w w') (h1 : rb ∉ L) (h2 : vb ∉ L) : RdW w' rb vb l e := by
  obtain ⟨v, hb, hs, hv⟩ := h.ex
  exact ⟨⟨v, hb.fr hf h1, SlF.fr hs hf (fun k hk => by rw [hv k hk]; exact h2), hv⟩, h.ne⟩
theorem RdW.fr0 {w w' : World} {rb vb : Nat} {l : List UInt8} {e : Int} (h : RdW w rb vb l e) (hf : Fr [] w w') : RdW w' rb vb l e := h.fr hf (by simp) (by simp)
theorem RdW.lt {w : World} {rb vb : Nat} {l : List UInt8} {e : Int} (h : RdW w rb vb l e) : rb < w.heap.size := by
  obtain ⟨v, hb, _, _⟩ := h.ex
  exact hb.lt
/-! ### plain -/
/-- what is taken: what is left, the error, the bytes -/
def rdTake (l : List UInt8) (e n : Int) (am : Bool) : List UInt8 × Int × List UInt8 :=
  if e ≠ 0 then (l, e, []) else if am = true then (l, 1, []) else if (l.length : Int) < n then (l, 10, []) else (l.drop n.toNat, 0, l.take n.toNat)
def rdNum (l : List UInt8) (e : Int) (W : Nat) : List UInt8 × Int × Nat :=
  if e ≠ 0 then (l, e, 0) else if l.length < W then (l, 10, 0) else (l.drop W, 0, valL (l.take W))
def rdEnd (l : List UInt8) (e : Int) : Int := if e = 0 ∧ 0 < l.length then 11 else e
/-! ### the calls -/
set_option maxRecDepth 100000 in
set_option maxHeartbeats 1600000 in
theorem NewReader_calls (v : Value) (l : List UInt8) (w : World) (hs : SlY w v l) (hok : okV v) (hl : l.length ≤ 4294967296) :
    Calls Try.prog 61 #[v] w fun e w' => ∃ rb vb, e = .returned (.pointer (some ⟨rb, 0, none⟩)) ∧ w.heap.size ≤ vb ∧ vb < rb ∧ RdW w' rb vb l 0 ∧ Fr [] w w' := by
  obtain ⟨a, cap, rfl, _, _, _⟩ := hs.open
  go_enter Try.func61, Try.ntmps61
  go_wp2_with (at_builtin; refine Hid.out ?_)
  refine hidIt ?_
  refine wpList_append_slL 46 5 (.int .u8 0) 1 1 Try.underlying46 infoY rfl (by decide) (by decide) rfl _ _ rfl w.heap.size _ 0 _ rfl (World.ownsRow_made w _ 0 (Nat.le_refl _) (by decide) rfl) _ l.length (l.flatMap byC) (Sl.fr0 hs ((Fr.refl _ _).alloc _)) hok (by rw [flatY_length, Nat.mul_one]) (flat_one (fun _ => by_one) l) rfl (by omega) (by omega) (by simp) ?_
  intro v2 w2 hown2 hgrow2 hloc2
  rw [Nat.zero_add, List.nil_append] at hown2
  obtain ⟨a2, c2, rfl, _⟩ := Sl.of_owns hown2
  have hF2 : Fr [] w w2 := ((Fr.refl [] w).alloc _).grown hgrow2 (fun x hx => .inr (by cases hx; exact Nat.le_refl _))
  go_wp2
  go_ret
  have hlt2 := hown2.lt
  have hob := own_base hown2
  have hfb := (Fr.refl [] w2).alloc (.cells #[.slice a2 l.length c2, .int .i64 0] 124)
  have hz : w.heap.size + 1 ≤ w2.heap.size := by have := hgrow2.size; simp at this; omega
  have hvb : ((Value.slice a2 l.length c2).ownBlock).getD w.heap.size < w2.heap.size ∧ w.heap.size ≤ ((Value.slice a2 l.length c2).ownBlock).getD w.heap.size := by
    cases h : (Value.slice a2 l.length c2).ownBlock with
    | none => simp; omega
    | some k => exact ⟨(hlt2 k h).2, hob k h⟩
  exact ⟨w2.heap.size, ((Value.slice a2 l.length c2).ownBlock).getD w.heap.size, rfl, hvb.2, hvb.1, ⟨⟨_, Blk.new w2 [_, _] _, SlF.fr0 (SlF.of_owns hown2) hfb, fun k hk => by rw [hk]; rfl⟩, Nat.ne_of_lt hvb.1⟩, hF2.trans0 hfb⟩
theorem Err_calls (rb vb : Nat) (l : List UInt8) (e : Int) (w : World) (h : RdW w rb vb l e) : Calls Try.prog 88 #[.pointer (some ⟨rb, 0, none⟩)] w fun e' w' => e' = .returned (.int .i64 e) ∧ w = w' := by
  obtain ⟨v, hb, hs, _⟩ := h.ex
  obtain ⟨a, cap, rfl, _, _, _⟩ := hs.open
  have c := hb.cell
  go_enter Try.func88, Try.ntmps88
  go_wp2
  go_ret
  exact ⟨rfl, rfl⟩
theorem End_calls (rb vb : Nat) (l : List UInt8) (e : Int) (w : World) (h : RdW w rb vb l e) : Calls Try.prog 65 #[.pointer (some ⟨rb, 0, none⟩)] w fun e' w' => e' = .returned (.int .i64 (rdEnd l e)) ∧ w = w' := by
  obtain ⟨v, hb, hs, _⟩ := h.ex
  obtain ⟨a, cap, rfl, _, _, _⟩ := hs.open
  have c := hb.cell
  unfold rdEnd
  by_cases he : e = 0
  · subst he
    by_cases hl : 0 < l.length
    · rw [if_pos ⟨rfl, hl⟩]
      have hl' : (0 : Int) < (l.length : Int) := by omega
      go_enter Try.func65, Try.ntmps65
      go_wp2
      go_ret
      exact ⟨rfl, rfl⟩
    · rw [if_neg (fun h => hl h.2)]
      have hl' : ¬ (0 : Int) < (l.length : Int) := by omega
      go_enter Try.func65, Try.ntmps65
      go_wp2
      go_ret
      exact ⟨rfl, rfl⟩
  · rw [if_neg (fun h => he h.1)]
    have he' : (e == 0) = false := by simpa using he
    go_enter Try.func65, Try.ntmps65
    go_wp2
    go_ret
    exact ⟨rfl, rfl⟩
theorem keep_calls (bx rb vb : Nat) (l : List UInt8) (e0 : Int) (w : World) (h : RdW w rb vb l 0) (B : Blk w bx [.pointer (some ⟨rb, 0, none⟩)] 100) (_ : bx ≠ rb) :
    Calls Try.prog 95 #[.int .i64 e0, .pointer (some ⟨bx, 0, none⟩)] w fun e' w' => e' = .returned (.slice none 0 0) ∧ RdW w' rb vb l e0 ∧ Fr [rb] w w' := by
  obtain ⟨v, hb, hs, hv⟩ := h.ex
  have hne := h.ne
  have c := hb.cell
  have f := hb.frozen
  have l1 := hb.lt
  have cb := B.cell
  go_enter Try.func95, Try.ntmps95
  go_wp2
  go_ret
  have hs1 : Fr [rb] w (w.setCell ⟨rb, 1, none⟩ (.int .i64 e0)) := (Fr.refl _ w).setCell (.inl (by simp)) _
  exact ⟨rfl, ⟨⟨v, hb.setCell 1 (.int .i64 e0), SlF.fr hs hs1 (fun k hk => by rw [hv k hk]; simpa using hne), hv⟩, hne⟩, hs1⟩
theorem take_pos {l : List UInt8} {n : Nat} (h : n ≤ l.length) : (l.take n).length = n := by simp; omega
set_option maxRecDepth 100000 in
set_option maxHeartbeats 1600000 in
theorem take_calls (rb vb : Nat) (l : List UInt8) (e n : Int) (am : Bool) (w : World) (h : RdW w rb vb l e) (hn : am = false → 0 ≤ n) :
    Calls Try.prog 87 #[.pointer (some ⟨rb, 0, none⟩), .int .i64 n, .bool am] w
      fun e' w' => ∃ x, e' = .returned x ∧ SlY w' x (rdTake l e n am).2.2 ∧ (∀ k, x.ownBlock = some k → k = vb) ∧ RdW w' rb vb (rdTake l e n am).1 (rdTake l e n am).2.1 ∧ Fr [rb] w w' := by
  have hl1 := h.lt
  have hfa := (Fr.refl [] w).alloc (.cells #[.pointer (some ⟨rb, 0, none⟩)] 100)
  have hA := h.fr0 hfa
  have B3 := Blk.new w [.pointer (some ⟨rb, 0, none⟩)] 100
  obtain ⟨v, hb, hs, hv⟩ := hA.ex
  obtain ⟨a, cap, rfl, hlc, hcm, _⟩ := hs.open
  have hne := h.ne
  have c := hb.cell
  have f := hb.frozen
  have l1 := hb.lt
  have c3 := B3.cell
  by_cases he : e = 0
  · subst he
    cases am with
    | true =>
      have e0 : rdTake l 0 n true = (l, 1, []) := by simp [rdTake]
      rw [e0]
      have key := keep_calls w.heap.size rb vb l 1 _ hA B3 (by omega)
      go_enter Try.func87, Try.ntmps87
      go_wp2_with fail
      refine key.mono ?_
      rintro e w1 ⟨rfl, hR, hf⟩
      go_wp2
      go_ret
      exact ⟨_, rfl, Sl.nil _, by simp [Value.ownBlock], hR, hfa.weak.trans' hf⟩
    | false =>
      obtain ⟨N, rfl⟩ : ∃ N : Nat, n = (N : Int) := ⟨n.toNat, by have := hn rfl; omega⟩
      by_cases hlen : (l.length : Int) < (N : Int)
      · have e0 : rdTake l 0 (N : Int) false = (l, 10, []) := by unfold rdTake; rw [if_neg (by simp), if_neg (by simp), if_pos hlen]
        rw [e0]
        have key := keep_calls w.heap.size rb vb l 10 _ hA B3 (by omega)
        go_enter Try.func87, Try.ntmps87
        go_wp2_with fail
        refine key.mono ?_
        rintro e w1 ⟨rfl, hR, hf⟩
        go_wp2
        go_ret
        exact ⟨_, rfl, Sl.nil _, by simp [Value.ownBlock], hR, hfa.weak.trans' hf⟩
      · have e0 : rdTake l 0 (N : Int) false = (l.drop N, 0, l.take N) := by unfold rdTake; rw [if_neg (by simp), if_neg (by simp), if_neg hlen]; simp
        rw [e0]
        clear hn
        have hNl : N ≤ l.length := by omega
        go_enter Try.func87, Try.ntmps87
        go_wp2_with fail
        generalize hW1 : w.alloc (.cells #[.pointer (some ⟨rb, 0, none⟩)] 100) = W1 at *
        clear hW1 B3
        refine wp_region_still_tail 9 (by kernel_rfl) (by as_aux_lemma => kernel_rfl) ?_
        simp only [List.take_succ_cons, List.take_zero, List.drop_succ_cons, List.drop_zero]
        change wpStill _ _ (World.drew _) _ _ _
        have cd : ∀ o, W1.drew.cell? ⟨rb, o, none⟩ = [Value.slice a l.length cap, .int .i64 0][o]? := c
        have c3d : ∀ o, W1.drew.cell? ⟨w.heap.size, o, none⟩ = [Value.pointer (some ⟨rb, 0, none⟩)][o]? := c3
        iterate 6 still_step
        refine wpStill_value rfl (.slice (slAddr a cap N 1) (l.length - N) (cap - N)) (by have cc := cut_from (P := Try.prog) (w := W1.drew) 46 5 1 Try.underlying46 (by kernel_rfl) a l.length cap N hNl; go_simp) ?_
        iterate 2 still_step
        refine wpStill_nil ?_
        change wpList _ _ _ _ _ (World.drew _)
        go_wp2
        go_ret
        have hsx := (SlF.to 1 (fun _ => rfl) hs hNl)
        have hsd := (SlF.from 1 (fun _ => rfl) hs hNl)
        have hs1 : Fr [rb] w (W1.drew.setCell ⟨rb, 0, none⟩ (.slice (slAddr a cap N 1) (l.length - N) (cap - N))) := hfa.weak.drew.setCell (.inl (by simp)) _
        have hs2 : Fr [rb] W1 (W1.drew.setCell ⟨rb, 0, none⟩ (.slice (slAddr a cap N 1) (l.length - N) (cap - N))) := (Fr.refl _ W1).drew.setCell (.inl (by simp)) _
        have hva : ∀ p, a = some p → p.block = vb := fun p hp => hv _ (by simp [Value.ownBlock, hp])
        have hvs : ∀ p, slAddr a cap N 1 = some p → p.block = vb := fun p hp => by
          unfold slAddr at hp
          split at hp
          · exact hva p hp
          · cases a with
            | none => cases hp
            | some q => simp at hp; subst hp; have := hva q rfl; unfold Addr.add; split <;> simp_all
        refine ⟨_, rfl, SlF.fr hsx hs2 ?_, ?_, ⟨⟨_, (hb.drew).setCell 0 _, SlF.fr hsd hs2 ?_, ?_⟩, hne⟩, hs1⟩
        · intro k hk; obtain ⟨p, hp, rfl⟩ := ownBlock_slice hk; rw [hva p hp]; simpa using hne
        · intro k hk; obtain ⟨p, hp, rfl⟩ := ownBlock_slice hk; exact hva p hp
        · intro k hk; obtain ⟨p, hp, rfl⟩ := ownBlock_slice hk; rw [hvs p hp]; simpa using hne
        · intro k hk; obtain ⟨p, hp, rfl⟩ := ownBlock_slice hk; exact hvs p hp
  · have e0 : rdTake l e n am = (l, e, []) := by simp [rdTake, he]
    rw [e0]
    have heb : (e == 0) = false := by simpa using he
    go_enter Try.func87, Try.ntmps87
    go_wp2
    go_ret
    exact ⟨_, rfl, Sl.nil _, by simp [Value.ownBlock], hA, hfa.weak⟩
theorem or_form (V C : Nat) (hV : V < 16777216) (hC : C < 256) : bits .or .i64 ((V : Int) * 256) (C : Int) = ((V * 256 + C : Nat) : Int) := by
  have h1 : ((V : Int) * 256) = ((V * 256 : Nat) : Int) := by simp
  have e1 : (BitVec.ofInt 64 ((V * 256 : Nat) : Int)).toNat = V * 256 := by rw [BitVec.toNat_ofInt]; omega
  have e2 : (BitVec.ofInt 64 (C : Int)).toNat = C := by rw [BitVec.toNat_ofInt]; omega
  have e3 : V * 256 ||| C = V * 256 + C := nat_join 8 _ _ (by omega) hC
  rw [h1]
  show IntKind.i64.wrap ((BitVec.ofInt 64 ((V * 256 : Nat) : Int) ||| BitVec.ofInt 64 (C : Int)).toNat : Int) = _
  rw [BitVec.toNat_or, e1, e2, e3]
  exact IntWalk.i64_in _ (by omega)
theorem valL_snoc_int (l : List UInt8) (b : UInt8) : ((valL (l ++ [b]) : Nat) : Int) = (valL l : Int) * 256 + (b.toNat : Int) := by rw [valL_snoc]; simp
set_option maxRecDepth 100000 in
set_option maxHeartbeats 1600000 in
theorem Num_calls (W : Nat) (hW : W = 1 ∨ W = 2 ∨ W = 4) (rb vb : Nat) (l : List UInt8) (e : Int) (w : World) (h : RdW w rb vb l e) :
    Calls Try.prog 62 #[.pointer (some ⟨rb, 0, none⟩), .int .i64 (W : Int)] w
      fun e' w' => e' = .returned (.int .i64 ((rdNum l e W).2.2 : Int)) ∧ RdW w' rb vb (rdNum l e W).1 (rdNum l e W).2.1 ∧ Fr [rb] w w' := by
  have kR := fun w => oRight_calls (W : Int) (by omega) w
  have kT := fun X h => take_calls rb vb l e (W : Int) false X h (fun _ => by omega)
  obtain ⟨x, hx⟩ : ∃ x, (rdTake l e (W : Int) false).2.2 = x := ⟨_, rfl⟩
  have hxl : x.length = 0 ∨ x.length = W := by
    rw [← hx]; unfold rdTake
    split
    · exact .inl rfl
    · split
      · exact .inl rfl
      · split
        · exact .inl rfl
        · right; simp; omega
  have hres : rdNum l e W = ((rdTake l e (W : Int) false).1, (rdTake l e (W : Int) false).2.1, valL x) := by
    rw [← hx]
    by_cases he : e = 0
    · by_cases hl : l.length < W
      · have hl' : (l.length : Int) < (W : Int) := by omega
        simp [rdNum, rdTake, he, hl, hl', valL]
      · have hl' : ¬ (l.length : Int) < (W : Int) := by omega
        simp [rdNum, rdTake, he, hl]
    · simp [rdNum, rdTake, he, valL]
  rw [hres]
  rw [hx] at kT
  simp only
  generalize (rdTake l e (W : Int) false).1 = l2 at *
  generalize (rdTake l e (W : Int) false).2.1 = e2 at *
  clear hres hx
  go_enter Try.func62, Try.ntmps62
  go_wp2_with fail
  refine (kR _).mono ?_
  rintro e w1 ⟨rfl, rfl⟩
  go_wp2_with fail
  refine (kT _ h).mono ?_
  rintro e w1 ⟨v, rfl, hs, hv, hR, hf⟩
  obtain ⟨a, cap, rfl, hlc, hcm, _⟩ := hs.open
  have hx8 : ¬ (x.length : Int) = 8 := by omega
  have hx8b : ((x.length : Int) == 8) = false := by simpa using hx8
  have hx4 : x.length ≤ 4 := by omega
  clear kR kT h hxl hx8
  go_wp2
  go_loopw [5, 29] (fun r i wr => ∃ k : Nat, k ≤ x.length ∧ i = .int .i64 k ∧ r = .int .i64 (valL (x.take k) : Int) ∧ w1 = wr) (fun _ i _ => x.length - (intOf i).toNat)
  case atStart => exact ⟨0, Nat.zero_le _, rfl, rfl, rfl⟩
  case round =>
    obtain ⟨k, hk, rfl, rfl, rfl⟩ := hrel
    by_cases hlt : k < x.length
    · obtain ⟨b, off, rfl, hb, c0⟩ := SlY.at hs hlt
      have Hst : Hid (x.take (k + 1) = x.take k ++ [x.getD k 0]) := hidIt (by
        have hg : x[k] = x.getD k 0 := by rw [List.getD_eq_getElem?_getD, List.getElem?_eq_getElem hlt]; rfl
        rw [List.take_succ_eq_append_getElem hlt, hg])
      have hvl := valL_lt (x.take k)
      have htk : (x.take k).length = k := by simp; omega
      rw [htk] at hvl
      have hk3 : k ≤ 3 := by omega
      have hv3 : valL (x.take k) < 16777216 := Nat.lt_of_lt_of_le hvl (by have := Nat.pow_le_pow_right (n := 256) (by omega) hk3; exact this)
      have hbyte := (x.getD k 0).toNat_lt
      generalize x.getD k 0 = c at *
      generalize hvv : valL (x.take k) = V at *
      generalize hcc : c.toNat = C at *
      go_wp2
      rw [or_form V C hv3 hbyte]
      go_roundw
      case rel => exact ⟨k + 1, by omega, by go_num, by rw [Hst.out, valL_snoc, hvv, hcc], trivial⟩
      case measure => simp [intOf]; omega
    · have hke : k = x.length := by omega
      subst hke
      rw [List.take_length]
      go_wp2
      go_ret
      exact ⟨rfl, hR, hf⟩
end Go.Proofs.Ytiifmakhfpllnaa

namespace Go.Proofs.Ytiifmakhfpllnaa
open Go.RowKit Go.Maps
theorem strCells_by (s : List UInt8) : Go.Lib.strCells ⟨s.toArray⟩ = s.flatMap byC := by
  unfold Go.Lib.strCells
  induction s with
  | nil => rfl
  | cons x l ih => simpa [byC] using ih
/-- 'append(b, s...)', s a text: where it lies behind it -/
theorem wpList_append_strL {P : Program} {ops : Array Oper} {rest : List Oper} {o : Oper} {a : Act} {Q : Exit → Act → World → Prop} (w : World) (hgd : o.guard = none) (sl x : Operand) (t u : TypeId)
    (ho : o.op = .call { callee := .builtin .append, args := #[sl, x], argTypes := #[t, u] })
    (base : Nat) (e : TypeId) (i : TypeInfo) (ht : P.underlying t = some (.slice e)) (hu : P.underlying u = some .string) (hi : P.info? e = some i) (hz : i.zero = some (.int .u8 0))
    (hsize : i.size = 1) (hby : i.bytes = 1)
    (v : Value) (n : Nat) (xs : List Value) (hs : a.eval sl = v) (hown : w.ownsRow base e 1 v n xs) (s : ByteArray) (hx : a.eval x = .string s)
    (h63 : n + s.size ≤ maxLen) (hbytes : n + s.size ≤ 140737488355328) (hbase : base ≤ w.heap.size)
    (h : ∀ v' w', w'.ownsRow base e 1 v' (n + s.size) (xs ++ Go.Lib.strCells s) → w.grownBy w' v.ownBlock → (v'.ownBlock = v.ownBlock ∨ v'.ownBlock = some w.heap.size) → wpList P ops Q rest (a.put o.dst v') w') : wpList P ops Q (o :: rest) a w := by
  refine wpList_plain hgd fun K hK => ?_
  obtain ⟨v', w', hr, h2, h3, h4⟩ := Go.Lib.run_append_own_string (P := P) w base t u o.type e i ht hu hi hz hsize hby v n xs hown s h63 hbytes hbase
  unfold Oper.wp execOp
  simp only [ho, resolve, invoke, builtin, Sem.run_bind, Sem.run_pure, Result.andThen_ok, List.map_toArray, List.map_cons, List.map_nil, hs, hx, hr]
  refine hK _ _ (h v' w' h2 h3 ?_)
  rcases hown.2 with ⟨rfl, rfl⟩ | ⟨g, cap, cur, rfl, hbg, hg, hnc, hcm, hcs, htake⟩
  · by_cases hm : s.size = 0
    · left
      rw [h4.2 ⟨rfl, hm⟩]
    · right
      have hr2 := run_append_nil_string (P := P) w t u o.type e i (.int .u8 0) ht hu hi hz s (by omega) (by unfold maxLen at h63; omega) (by rw [hby]; omega)
      have := (Result.ok.inj (hr.symm.trans hr2)).1
      rw [this]
      rfl
  · by_cases hroom : n + s.size ≤ cap
    · left
      have hcs' : cur.size = cap := by simpa using hcs
      have hr2 := Go.Lib.run_append_room_string (P := P) w t u o.type e i ht hu hi hsize g n cap cur hg s hroom (by omega)
      have := (Result.ok.inj (hr.symm.trans hr2)).1
      rw [this]
      rfl
    · right
      have hxl : xs.length = n := by simpa using hown.1
      have holds : ∀ j u, xs[j]? = some u → w.cell? ((⟨g, 0, none⟩ : Addr).add j) = some u := hown.cells (g := g) rfl
      have hr2 := Go.Lib.run_append_grow_string (P := P) w t u o.type e i (.int .u8 0) ht hu hi hz ⟨g, 0, none⟩ n cap xs (by rw [hsize]; simpa using hxl) holds s (by omega) (by unfold maxLen at h63; omega) (by rw [hby]; exact growslice_fits (by omega) (by omega))
      have := (Result.ok.inj (hr.symm.trans hr2)).1
      rw [this]
      rfl
set_option maxRecDepth 100000 in
set_option maxHeartbeats 800000 in
theorem oText_calls (W : Nat) (hW : W = 1 ∨ W = 2 ∨ W = 4) (base : Nat) (v : Value) (bs s : List UInt8) (w : World) (hown : w.ownsRow base 5 1 v bs.length (bs.flatMap byC)) (hs : s.length < 256 ^ W)
    (hm : bs.length + 4 ≤ 1000000) (hsm : s.length ≤ 1000000) (hb : base ≤ w.heap.size) :
    Calls Try.prog 49 #[v, strL s, .int .i64 (W : Int)] w
      fun e w' => ∃ v', e = .returned (.tuple #[v', .bool true]) ∧ w'.ownsRow base 5 1 v' (bs ++ numL W s.length ++ s).length ((bs ++ numL W s.length ++ s).flatMap byC) ∧ Fr v.ownBlock.toList w w' ∧ ∀ x, v'.ownBlock = some x → v.ownBlock = some x ∨ w.heap.size ≤ x := by
  obtain ⟨t, ht⟩ : ∃ t, strL s = .string t := ⟨_, rfl⟩
  have hlen := fun ty X => len_str s ty X
  have hgi : goInt s.length = .int .i64 s.length := rfl
  rw [hgi] at hlen
  rw [ht] at hlen ⊢
  have hts : t.size = s.length := by cases ht; exact size_str s
  have htc : Go.Lib.strCells t = s.flatMap byC := by cases ht; exact strCells_by s
  clear hgi
  go_enter Try.func49, Try.ntmps49
  go_wp2_with fail
  refine (Put_calls W hW [s.length] (by intro x hx; have := List.mem_singleton.1 hx; subst this; exact hs) base v bs w.heap.size 1 _ (hown.alloc _) (by simp; omega) (by simp; omega) (Blk.new w [_] _) (fun k hk e => by have := (hown.lt k hk).2; omega)).mono ?_
  rintro e w1 ⟨v1, rfl, hown1, hf1, hob1⟩
  have hF1 : Fr v.ownBlock.toList w w1 := ((Fr.refl _ w).alloc (.cells #[.int .i64 s.length] 3)).trans' hf1
  have e1 : bs ++ [s.length].flatMap (numL W) = bs ++ numL W s.length := by simp
  rw [e1] at hown1
  have hW4 : W ≤ 4 := by omega
  have hpl : (bs ++ numL W s.length).length = bs.length + W := by simp [numL_length]
  generalize hp : bs ++ numL W s.length = pre at hown1 hpl
  have Hp := hidIt hp
  clear hp
  have hsz := hF1.size
  simp only [World.size_alloc] at hob1
  clear hf1 e1
  go_wp2_with (at_builtin; refine Hid.out ?_)
  refine hidIt ?_
  obtain ⟨i0, hi, hz0, hz1, hz2⟩ := info_parts infoY
  refine wpList_append_strL _ rfl _ _ _ _ rfl base 5 i0 Try.underlying46 Try.underlying9 hi hz0 hz1 hz2 v1 pre.length _ rfl hown1 t rfl (by unfold maxLen; omega) (by omega) (by omega) ?_
  intro v2 w2 hown2 hgrow2 hloc2
  rw [htc, hts, ← List.flatMap_append, ← List.length_append] at hown2
  have hF2 : Fr v.ownBlock.toList w w2 := hF1.grown hgrow2 (fun x hx => by
    rcases hob1 x hx with h | h
    · exact .inl (by simp [h])
    · exact .inr (by omega))
  have hob2 : ∀ x, v2.ownBlock = some x → v.ownBlock = some x ∨ w.heap.size ≤ x := fun x hx => by
    rcases hloc2 with h | h
    · rw [h] at hx
      rcases hob1 x hx with h | h
      · exact .inl h
      · exact .inr (by omega)
    · rw [h] at hx
      cases hx
      exact .inr hsz
  go_wp2
  go_ret2
  exact ⟨_, rfl, by rw [Hp.out]; exact hown2, hF2, hob2⟩
def rdText (l : List UInt8) (e : Int) (W : Nat) : List UInt8 × Int × List UInt8 := rdTake (rdNum l e W).1 (rdNum l e W).2.1 ((rdNum l e W).2.2 : Int) false
set_option maxRecDepth 100000 in
set_option maxHeartbeats 800000 in
theorem Text_calls (W : Nat) (hW : W = 1 ∨ W = 2 ∨ W = 4) (rb vb : Nat) (l : List UInt8) (e : Int) (w : World) (h : RdW w rb vb l e) :
    Calls Try.prog 63 #[.pointer (some ⟨rb, 0, none⟩), .int .i64 (W : Int)] w
      fun e' w' => e' = .returned (strL (rdText l e W).2.2) ∧ RdW w' rb vb (rdText l e W).1 (rdText l e W).2.1 ∧ Fr [rb] w w' := by
  unfold rdText
  have key := Num_calls W hW rb vb l e w h
  generalize rdNum l e W = q at *
  obtain ⟨l1, e1, n⟩ := q
  simp only at key ⊢
  go_enter Try.func63, Try.ntmps63
  go_wp2_with fail
  refine key.mono ?_
  rintro e w1 ⟨rfl, h1, hf1⟩
  go_wp2_with fail
  refine (take_calls rb vb l1 e1 (n : Int) false w1 h1 (fun _ => by omega)).mono ?_
  rintro e w2 ⟨v, rfl, hs, hv, hR, hf⟩
  have hc := conv_str hs
  go_wp2
  go_ret
  exact ⟨rfl, hR, hf1.trans' hf⟩
end Go.Proofs.Ytiifmakhfpllnaa

namespace Go.Proofs.Ytiifmakhfpllnaa
open Go.RowKit

/-! ### eight bits as a number -/
def valB (f : Nat → Bool) : Nat → Nat
  | 0 => 0
  | k + 1 => valB f k + (if f k then 2 ^ k else 0)
theorem valB_lt (f : Nat → Bool) : ∀ k, valB f k < 2 ^ k
  | 0 => by simp [valB]
  | k + 1 => by
    have := valB_lt f k
    unfold valB
    rw [Nat.pow_succ]
    split <;> omega
theorem valB_succ (f : Nat → Bool) : ∀ k, valB f (k + 1) = (if f 0 then 1 else 0) + 2 * valB (fun i => f (i + 1)) k
  | 0 => by simp [valB]
  | k + 1 => by
    have ih := valB_succ f k
    have e : valB f (k + 1 + 1) = valB f (k + 1) + (if f (k + 1) then 2 ^ (k + 1) else 0) := rfl
    have e2 : valB (fun i => f (i + 1)) (k + 1) = valB (fun i => f (i + 1)) k + (if f (k + 1) then 2 ^ k else 0) := rfl
    rw [e, ih, e2, Nat.pow_succ]
    cases f (k + 1)
    · simp
    · simp only [if_true]
      omega
theorem valB_bit : ∀ (m : Nat) (f : Nat → Bool) (k : Nat), k < m → (valB f m / 2 ^ k % 2 == 1) = f k
  | m + 1, f, 0, _ => by
    rw [valB_succ]
    cases h : f 0
    · simp
    · simp only [if_true, Nat.pow_zero, Nat.div_one]
      have : (1 + 2 * valB (fun i => f (i + 1)) m) % 2 = 1 := by omega
      rw [this]; rfl
  | m + 1, f, k + 1, h => by
    have e : valB f (m + 1) / 2 ^ (k + 1) = valB (fun i => f (i + 1)) m / 2 ^ k := by
      rw [Nat.pow_succ, Nat.mul_comm, ← Nat.div_div_eq_div_mul, valB_succ]
      congr 1
      split <;> omega
    rw [e]
    exact valB_bit m (fun i => f (i + 1)) k (by omega)
theorem valB_of : ∀ (m b : Nat), b < 2 ^ m → valB (fun i => b / 2 ^ i % 2 == 1) m = b
  | 0, b, h => by simp at h; subst h; rfl
  | m + 1, b, h => by
    rw [valB_succ]
    have e : (fun i => b / 2 ^ (i + 1) % 2 == 1) = (fun i => b / 2 / 2 ^ i % 2 == 1) := by
      funext i
      rw [Nat.pow_succ, Nat.mul_comm, Nat.div_div_eq_div_mul]
    rw [e, valB_of m (b / 2) (by rw [Nat.pow_succ] at h; omega)]
    simp only [Nat.pow_zero, Nat.div_one]
    by_cases h2 : b % 2 = 1
    · simp only [h2]
      simp
      omega
    · have h0 : b % 2 = 0 := by omega
      simp only [h0]
      simp
      omega
theorem valB_congr {f g : Nat → Bool} : ∀ {m : Nat}, (∀ k, k < m → f k = g k) → valB f m = valB g m
  | 0, _ => rfl
  | m + 1, h => by
    unfold valB
    rw [valB_congr (fun k hk => h k (by omega)), h m (by omega)]
theorem valB_zero {f : Nat → Bool} {n : Nat} : ∀ {m : Nat}, n ≤ m → (∀ k, n ≤ k → f k = false) → valB f m = valB f n
  | 0, hm, _ => by have : n = 0 := by omega
                   subst this; rfl
  | m + 1, hm, h => by
    by_cases e : n = m + 1
    · rw [e]
    · have e2 : valB f (m + 1) = valB f m + (if f m then 2 ^ m else 0) := rfl
      rw [e2, h m (by omega), valB_zero (by omega) h]
      simp
/-! ### the bytes of bits -/
/-- byte j -/
def byF (l : List Bool) (j : Nat) : Nat → Bool := fun k => l.getD (8 * j + k) false
def byV (l : List Bool) (j : Nat) : Nat := valB (byF l j) 8
def nbB (n : Nat) : Nat := (n + 7) / 8
def bodyB (l : List Bool) (m : Nat) : List UInt8 := (List.range m).map fun j => UInt8.ofNat (byV l j)
theorem bodyB_length (l : List Bool) (m : Nat) : (bodyB l m).length = m := by simp [bodyB]
theorem bodyB_succ (l : List Bool) (m : Nat) : bodyB l (m + 1) = bodyB l m ++ [UInt8.ofNat (byV l m)] := by simp [bodyB, List.range_succ]
theorem byV_lt (l : List Bool) (j : Nat) : byV l j < 256 := valB_lt _ 8
theorem bodyB_getD {l : List Bool} {m j : Nat} (h : j < m) : ((bodyB l m).getD j 0).toNat = byV l j := by
  rw [List.getD_eq_getElem?_getD, List.getElem?_eq_getElem (by rw [bodyB_length]; exact h)]
  simp only [bodyB, List.getElem_map, List.getElem_range, Option.getD_some]
  rw [ofNat_toNat, Nat.mod_eq_of_lt (byV_lt l j)]
def encB (S g : Nat) (l : List Bool) : List UInt8 := numL 2 S ++ numL 1 g ++ bodyB l (nbB l.length)
theorem encB_length (S g : Nat) (l : List Bool) : (encB S g l).length = 3 + nbB l.length := by
  unfold encB
  rw [List.length_append, List.length_append, numL_length, numL_length, bodyB_length]
def goodB (S g : Nat) (l : List Bool) : Prop := S ≤ 4096 ∧ pow2 (g : Int) = true ∧ l.length = gran S g
/-- bit i of the bytes behind the head -/
def bitB (bs : List UInt8) (i : Nat) : Bool := (bs.getD (3 + i / 8) 0).toNat / 2 ^ (i % 8) % 2 == 1
def decL (bs : List UInt8) (n : Nat) : List Bool := (List.range n).map (bitB bs)
theorem decL_length (bs : List UInt8) (n : Nat) : (decL bs n).length = n := by simp [decL]
theorem decL_getD (bs : List UInt8) (n i : Nat) : (decL bs n).getD i false = (decide (i < n) && bitB bs i) := by
  rw [List.getD_eq_getElem?_getD]
  by_cases h : i < n
  · rw [List.getElem?_eq_getElem (by rw [decL_length]; exact h)]
    simp [decL, h]
  · rw [List.getElem?_eq_none (by rw [decL_length]; omega)]
    simp [h]
theorem encB_byte {S g : Nat} {l : List Bool} {j : Nat} (h : j < nbB l.length) : ((encB S g l).getD (3 + j) 0).toNat = byV l j := by
  unfold encB
  rw [List.getD_eq_getElem?_getD, List.getElem?_append_right (by rw [List.length_append, numL_length, numL_length]; omega), List.length_append, numL_length, numL_length, show 3 + j - (2 + 1) = j by omega, ← List.getD_eq_getElem?_getD]
  exact bodyB_getD h
theorem encB_bit {S g : Nat} {l : List Bool} {i : Nat} (h : i / 8 < nbB l.length) : bitB (encB S g l) i = l.getD i false := by
  unfold bitB
  rw [encB_byte h]
  unfold byV
  rw [valB_bit 8 _ _ (Nat.mod_lt _ (by omega))]
  unfold byF
  congr 1
  omega
theorem encB_dec {S g : Nat} {l : List Bool} : decL (encB S g l) l.length = l := by
  apply List.ext_getElem
  · rw [decL_length]
  · intro i h1 h2
    have e1 := decL_getD (encB S g l) l.length i
    rw [List.getD_eq_getElem?_getD, List.getElem?_eq_getElem h1, encB_bit (by unfold nbB; omega), List.getD_eq_getElem?_getD, List.getElem?_eq_getElem h2] at e1
    simpa [h2] using e1
theorem goodB_small {S g : Nat} {l : List Bool} (h : goodB S g l) : S < 65536 ∧ 1 ≤ g ∧ g ≤ 64 ∧ l.length ≤ 4096 := by
  obtain ⟨h1, h2, h3⟩ := h
  have h4 := pow2_le h2
  refine ⟨by omega, by omega, by omega, ?_⟩
  rw [h3]
  exact gran_le h1 (by omega)
theorem encB_S {S g : Nat} {l : List Bool} (h : S < 65536) : valL ((encB S g l).take 2) = S := by
  unfold encB
  rw [List.append_assoc, List.take_append_of_le_length (by rw [numL_length]; exact Nat.le_refl _), List.take_of_length_le (by rw [numL_length]; exact Nat.le_refl _), valL_numL]
  exact Nat.mod_eq_of_lt h
theorem encB_g {S g : Nat} {l : List Bool} (h : g < 256) : valL (((encB S g l).drop 2).take 1) = g := by
  unfold encB
  rw [List.append_assoc, List.drop_append_of_le_length (by rw [numL_length]; exact Nat.le_refl _), List.drop_of_length_le (by rw [numL_length]; exact Nat.le_refl _), List.nil_append,
    List.take_append_of_le_length (by rw [numL_length]; exact Nat.le_refl _), List.take_of_length_le (by rw [numL_length]; exact Nat.le_refl _), valL_numL]
  exact Nat.mod_eq_of_lt h
theorem encB_inj {S g S' g' : Nat} {l l' : List Bool} (h : goodB S g l) (h' : goodB S' g' l') (e : encB S g l = encB S' g' l') : S = S' ∧ g = g' ∧ l = l' := by
  obtain ⟨a1, a2, a3, a4⟩ := goodB_small h
  obtain ⟨b1, b2, b3, b4⟩ := goodB_small h'
  have e1 : S = S' := by rw [← encB_S (g := g) (l := l) a1, e, encB_S b1]
  have e2 : g = g' := by rw [← encB_g (S := S) (g := g) (l := l) (by omega), e, encB_g (by omega)]
  subst e1; subst e2
  have e3 : l.length = l'.length := h.2.2.trans h'.2.2.symm
  refine ⟨rfl, rfl, ?_⟩
  rw [← encB_dec (S := S) (g := g) (l := l), e, e3, encB_dec]
/-- bytes that are bits' -/
theorem encB_of {bs : List UInt8} {S g : Nat} (hS : valL (bs.take 2) = S) (hg : valL ((bs.drop 2).take 1) = g) (hl : bs.length = 3 + nbB (gran S g)) (h0 : ∀ i, gran S g ≤ i → i / 8 < nbB (gran S g) → bitB bs i = false) :
    encB S g (decL bs (gran S g)) = bs := by
  have hb : bs = bs.take 2 ++ ((bs.drop 2).take 1 ++ bs.drop 3) := by
    have e1 : (bs.drop 2).take 1 ++ bs.drop 3 = bs.drop 2 := by
      have := List.take_append_drop 1 (bs.drop 2)
      rwa [List.drop_drop] at this
    rw [e1, List.take_append_drop]
  have e1 : numL 2 S = bs.take 2 := by
    rw [← hS]
    have := numL_valL (bs.take 2)
    rwa [show (bs.take 2).length = 2 by rw [List.length_take]; omega] at this
  have e2 : numL 1 g = (bs.drop 2).take 1 := by
    rw [← hg]
    have := numL_valL ((bs.drop 2).take 1)
    rwa [show ((bs.drop 2).take 1).length = 1 by rw [List.length_take, List.length_drop]; omega] at this
  have e3 : bodyB (decL bs (gran S g)) (nbB (decL bs (gran S g)).length) = bs.drop 3 := by
    rw [decL_length]
    apply List.ext_getElem
    · rw [bodyB_length, List.length_drop]; omega
    · intro j h1 h2
      have hj : j < nbB (gran S g) := by rw [bodyB_length] at h1; exact h1
      apply UInt8.toNat_inj.1
      have e4 := bodyB_getD (l := decL bs (gran S g)) hj
      rw [List.getD_eq_getElem?_getD, List.getElem?_eq_getElem h1, Option.getD_some] at e4
      rw [e4, List.getElem_drop]
      have e5 : bs[3 + j]'(by omega) = bs.getD (3 + j) 0 := by rw [List.getD_eq_getElem?_getD, List.getElem?_eq_getElem (by omega)]; rfl
      rw [e5]
      have hb : (bs.getD (3 + j) 0).toNat < 2 ^ 8 := (bs.getD (3 + j) 0).toNat_lt
      rw [← valB_of 8 _ hb]
      unfold byV
      apply valB_congr
      intro k hk
      unfold byF
      rw [decL_getD]
      have e6 : bitB bs (8 * j + k) = ((bs.getD (3 + j) 0).toNat / 2 ^ k % 2 == 1) := by
        unfold bitB
        rw [show (8 * j + k) / 8 = j by omega, show (8 * j + k) % 8 = k by omega]
      by_cases hi : 8 * j + k < gran S g
      · rw [decide_eq_true hi, Bool.true_and, e6]
      · rw [decide_eq_false hi, Bool.false_and, ← e6, h0 _ (by omega) (by rw [show (8 * j + k) / 8 = j by omega]; exact hj)]
  unfold encB
  rw [e1, e2, e3, List.append_assoc]
  exact hb.symm
end Go.Proofs.Ytiifmakhfpllnaa

namespace Go.Proofs.Ytiifmakhfpllnaa
open Go.RowKit Go.Maps

def bn (b : Bool) : Nat := if b = true then 1 else 0
theorem bn_lt (b : Bool) : bn b < 256 ^ 1 := by cases b <;> decide
def encE (clean : Bool) (x : Ent) : List UInt8 := numL 1 x.name.length ++ (x.name ++ (numL 1 (bn x.on) ++ (numL 1 (bn (x.use && clean)) ++ (numL 2 (encB x.S x.g x.l).length ++ encB x.S x.g x.l))))
def encD (E : List Ent) (clean : Bool) : List UInt8 := numL 1 E.length ++ E.flatMap (encE clean)
theorem nbB_le {n : Nat} (h : n ≤ 4096) : nbB n ≤ 512 := by unfold nbB; omega
theorem OkE.g {x : Ent} (h : OkE x) : 0 < x.g ∧ x.g ≤ 64 := by have := pow2_le h.pow; omega
theorem OkE.short {x : Ent} (h : OkE x) : (encB x.S x.g x.l).length ≤ 515 := by
  rw [encB_length, h.len]
  have := nbB_le (gran_le h.size h.g.1)
  omega
theorem encE_len {x : Ent} (h : OkE x) (clean : Bool) : (encE clean x).length ≤ 535 := by
  have := h.short
  have := okName_len h.name
  simp only [encE, List.length_append, numL_length]
  omega
theorem encD_flat_len {E : List Ent} (h : ∀ x ∈ E, OkE x) (clean : Bool) : (E.flatMap (encE clean)).length ≤ E.length * 535 := by
  induction E with
  | nil => simp
  | cons x l ih =>
    have h1 := encE_len (h x List.mem_cons_self) clean
    have h2 := ih fun y hy => h y (List.mem_cons_of_mem _ hy)
    rw [List.flatMap_cons, List.length_append, List.length_cons]
    omega
theorem encD_len {E : List Ent} (h : OkD E) (clean : Bool) : (encD E clean).length ≤ 5000 := by
  have h1 := encD_flat_len h.all clean
  have h2 := h.few
  unfold encD
  rw [List.length_append, numL_length]
  omega
/-- of no use -/
def noUse (x : Ent) : Ent := { x with use := false }
theorem encD_clean (E : List Ent) : encD E false = encD (E.map noUse) true := by
  unfold encD
  rw [List.length_map, List.flatMap_map]
  congr 2
  funext x
  simp only [encE, noUse, Bool.and_false, Bool.false_and]
theorem noUse_ok {E : List Ent} (h : OkD E) : OkD (E.map noUse) := by
  refine ⟨fun x hx => ?_, by rw [List.length_map]; exact h.few, by rw [List.pairwise_map]; exact h.rising⟩
  obtain ⟨y, hy, rfl⟩ := List.mem_map.1 hx
  have := h.all y hy
  exact ⟨this.name, this.size, this.pow, this.len⟩
/-! ### what is read of what was written -/
theorem rdNum_of {W n : Nat} (r : List UInt8) (h : n < 256 ^ W) : rdNum (numL W n ++ r) 0 W = (r, 0, n) := by
  have hl := numL_length W n
  unfold rdNum
  rw [if_neg (by simp), if_neg (by rw [List.length_append, hl]; omega), List.drop_left' hl, List.take_left' hl, valL_numL, Nat.mod_eq_of_lt h]
theorem rdText_of {W : Nat} (s r : List UInt8) (h : s.length < 256 ^ W) : rdText (numL W s.length ++ (s ++ r)) 0 W = (r, 0, s) := by
  unfold rdText
  rw [rdNum_of _ h]
  simp [rdTake]
  omega
end Go.Proofs.Ytiifmakhfpllnaa

namespace Go.Proofs.Ytiifmakhfpllnaa
open Go.RowKit Go.Maps
attribute [local go_sem] mapAt_alloc mapAt_setCell mapAt_drew mapAt_drewN

theorem or_bit (V k : Nat) (hk : k < 8) (hV : V < 2 ^ k) : bits .or .u8 (V : Int) ((2 : Int) ^ k % 256) = ((V + 2 ^ k : Nat) : Int) := by
  have hk2 : 2 ^ k ≤ 128 := Nat.le_trans (Nat.pow_le_pow_right (by omega) (by omega : k ≤ 7)) (by decide)
  have e0 : (2 : Int) ^ k % 256 = ((2 ^ k : Nat) : Int) := by
    rw [show (2 : Int) ^ k = ((2 ^ k : Nat) : Int) from (Int.natCast_pow 2 k).symm]
    omega
  rw [e0]
  have e1 : (BitVec.ofInt 8 (V : Int)).toNat = V := by rw [BitVec.toNat_ofInt]; omega
  have e2 : (BitVec.ofInt 8 ((2 ^ k : Nat) : Int)).toNat = 2 ^ k := by rw [BitVec.toNat_ofInt]; omega
  have e3 : V ||| 2 ^ k = V + 2 ^ k := by
    have := Nat.two_pow_add_eq_or_of_lt hV 1
    rw [Nat.mul_one] at this
    rw [Nat.or_comm, ← this, Nat.add_comm]
  show IntKind.u8.wrap ((BitVec.ofInt 8 (V : Int) ||| BitVec.ofInt 8 ((2 ^ k : Nat) : Int)).toNat : Int) = _
  rw [BitVec.toNat_or, e1, e2, e3]
  generalize 2 ^ k = D at *
  simp [IntKind.wrap, IntKind.signed, IntKind.bits]
  omega
set_option maxRecDepth 100000 in
set_option maxHeartbeats 4000000 in
theorem EncodeB_calls (tb mb S g : Nat) (l : List Bool) (w : World) (h : BitW w tb mb S g l) : Calls Try.prog 51 #[.pointer (some ⟨tb, 0, none⟩)] w
    fun e w' => ∃ u, e = .returned u ∧ w'.ownsRow w.heap.size 5 1 u (encB S g l).length ((encB S g l).flatMap byC) ∧ Fr [] w w' := by
  have hS := h.size
  have hg := h.grain
  have hle := gran_le h.size h.grain.1
  have hlen := hidIt h.len
  obtain ⟨hlt, hmlt⟩ := h.lt
  have c := h.blk.cell
  have Henc : Hid (encB S g l = (numL 2 S ++ numL 1 g) ++ bodyB l (nbB (gran S g))) := hidIt (by unfold encB; rw [hlen.out])
  go_enter Try.func51, Try.ntmps51
  go_wp2_with fail
  refine (Put_calls 2 (by omega) [S] (by intro x hx; have := List.mem_singleton.1 hx; subst this; (show _ < 65536); omega) w.heap.size _ [] w.heap.size 1 _ (World.ownsRow_nil _ _ _ _) (by simp) (by simp) (Blk.new w [_] _) (by simp [Value.ownBlock])).mono ?_
  rintro e w1 ⟨v1, rfl, hown1, hf1, hob1⟩
  have hF1 : Fr [] w w1 := ((Fr.refl [] w).alloc (.cells #[.int .i64 S] 3)).trans hf1 (by simp [Value.ownBlock])
  have h1 := h.fr0 hF1
  have c1 := h1.blk.cell
  have hlt1 := h1.lt
  have hb1 := own_base hown1
  have hsz1 := hF1.size
  clear c hob1
  go_wp2_with fail
  refine (Put_calls 1 (by omega) [g] (by intro x hx; have := List.mem_singleton.1 hx; subst this; (show _ < 256); omega) w.heap.size _ _ w1.heap.size 1 _ (hown1.alloc _) (by simp [numL_length]) (by simp; omega) (Blk.new w1 [_] _) (fun k hk e => by have := (hown1.lt k hk).2; omega)).mono ?_
  rintro e w2 ⟨v2, rfl, hown2, hf2, hob2⟩
  have hF2 : Fr [] w w2 := (hF1.alloc (.cells #[.int .i64 g] 3)).trans hf2 (fun x hx hl => by have := hb1 x (by simpa using hx); omega)
  have hW2 := h.fr0 hF2
  have epre : ([] : List UInt8) ++ [S].flatMap (numL 2) ++ [g].flatMap (numL 1) = numL 2 S ++ numL 1 g := by simp
  rw [epre] at hown2
  have hpl : (numL 2 S ++ numL 1 g).length = 3 := by simp [numL_length]
  generalize numL 2 S ++ numL 1 g = pre at *
  clear hf1 hf2 hb1 h1 c1 hown1 hF1 hsz1 hlt1 hlt hmlt hob2 epre
  go_wp2_with fail
  go_loopw [3, 5] (fun v i wr => ∃ (k : Nat), k ≤ nbB (gran S g) ∧ i = .int .i64 ((8 * k : Nat) : Int) ∧ wr.ownsRow w.heap.size 5 1 v (pre ++ bodyB l k).length ((pre ++ bodyB l k).flatMap byC) ∧ Fr [] w wr) (fun _ i _ => 10000 - (intOf i).toNat)
  case atStart => exact ⟨0, Nat.zero_le _, rfl, by simpa [bodyB] using hown2, hF2⟩
  case round =>
    obtain ⟨k, hk, rfl, hown, hF⟩ := hrel
    have hW := h.fr0 hF
    have hkn : k ≤ 600 := by unfold nbB at hk; omega
    have hbl := bodyB_length l k
    have hol : (pre ++ bodyB l k).length ≤ 1000 := by rw [List.length_append]; omega
    have Hst := hidIt (bodyB_succ l k)
    have Hbv : Hid (byV l k = valB (byF l k) 8) := hidIt rfl
    have Hv0 : Hid (valB (byF l k) 0 = 0) := hidIt rfl
    have Hvs : ∀ jj, Hid (valB (byF l k) (jj + 1) = valB (byF l k) jj + (if l.getD (8 * k + jj) false then 2 ^ jj else 0)) := fun jj => hidIt rfl
    have Hvl := fun jj => hidIt (valB_lt (byF l k) jj)
    clear hbl
    generalize hBk : bodyB l k = Bk at *
    replace hBk := hidIt hBk
    generalize valB (byF l k) = VB at *
    go_wp2_with fail
    refine (granules_calls tb mb S g l _ hW).mono ?_
    rintro e w3 ⟨rfl, hf3⟩
    have hF3 := hF.trans0 hf3
    replace hown := owns_fr hown hf3 (by simp)
    have hW3 := h.fr0 hF3
    have c := hW3.blk.cell
    obtain ⟨es, clock, hm, hi⟩ := hW3.map
    clear hW hF hf3 hW2 hF2 hown2
    by_cases hlt : 8 * k < gran S g
    · go_wp2_with fail
      go_loopw [6, 7, 33] (fun x _ j wr => wr = w3 ∧ ∃ (jj : Nat), x = .int .u8 ((VB jj : Nat) : Int) ∧ jj ≤ 8 ∧ j = .int .i64 (jj : Int)) (fun _ _ j _ => 8 - (intOf j).toNat)
      case atStart => exact ⟨rfl, 0, by rw [Hv0.out]; rfl, by omega, rfl⟩
      case round =>
        obtain ⟨rfl, jj, rfl, hj, rfl⟩ := hrel
        by_cases hj8 : jj < 8
        · have hlook : ∀ W, mapAt W mb = some (es, clock) → (Instr.lookup 73 (.map (some mb)) (.int .i64 (8 * (k : Int) + (jj : Int))) false).run Try.prog W = .ok (.int .i64 (if l.getD (8 * k + jj) false = true then 1 else 0)) W := fun W hW => by
            have e : 8 * (k : Int) + (jj : Int) = ((8 * k + jj : Nat) : Int) := by simp
            rw [e]
            exact look_bit hi hW (8 * k + jj) (by omega)
          have hvs := Hvs jj
          have hvl := Hvl jj
          clear Hvs Hvl Hv0
          generalize l.getD (8 * k + jj) false = q at *
          clear hown hW3 hi
          cases q
          · go_wp2
            go_roundw
            case rel => exact ⟨trivial, jj + 1, by rw [hvs.out]; simp, by omega, by go_num⟩
            case measure => simp [intOf]; omega
          · go_wp2
            rw [or_bit _ _ hj8 hvl.out]
            go_roundw
            case rel => exact ⟨trivial, jj + 1, by rw [hvs.out]; simp, by omega, by go_num⟩
            case measure => simp [intOf]; omega
        · have hj8 : jj = 8 := by omega
          subst hj8
          have hob := own_base hown
          have hsz := hF3.size
          have hv8 : VB 8 < 256 := (Hvl 8).out
          have Hcell : Hid (([.int .u8 ((VB 8 : Nat) : Int)] : List Value) = byC (UInt8.ofNat (byV l k))) := hidIt (by
            rw [byC, ofNat_toNat, Hbv.out, Nat.mod_eq_of_lt hv8])
          clear hm hi c Hvs Hvl Hv0
          generalize VB 8 = V8 at *
          go_wp2_with (at_builtin; refine Hid.out ?_)
          refine hidIt ?_
          refine wpList_append1 46 5 (.int .u8 0) 1 1 Try.underlying46 infoY rfl (by decide) (by decide) rfl _ _ rfl w.heap.size _ _ _ rfl (hown.alloc _) [.int .u8 ((V8 : Nat) : Int)] rfl (by intro u hu; simp at hu; subst hu; rfl) wr.heap.size rfl (Blk.new _ _ _) (by omega) (by simp; omega) ?_
          intro v4 w4 hown4 hgrow4 hloc4
          rw [Hcell.out] at hown4
          have e1 : (pre ++ bodyB l (k + 1)).flatMap byC = (pre ++ Bk).flatMap byC ++ byC (UInt8.ofNat (byV l k)) := by rw [Hst.out]; simp
          have e2 : (pre ++ bodyB l (k + 1)).length = (pre ++ Bk).length + 1 := by rw [Hst.out]; simp; omega
          rw [← e1, ← e2] at hown4
          have hF4 := (hF3.alloc (.cells #[.int .u8 ((V8 : Nat) : Int)] 5)).grown hgrow4 (fun x hx => .inr (hob x hx))
          clear e1 e2
          go_wp2
          go_roundw
          case rel => exact ⟨k + 1, by unfold nbB; omega, by go_num, hown4, hF4⟩
          case measure => simp [intOf]; omega
    · have hke : Hid (k = nbB (gran S g)) := hidIt (by unfold nbB at hk ⊢; omega)
      clear hm hi
      go_wp2
      go_ret
      refine ⟨_, rfl, ?_, hF3⟩
      rw [Henc.out, ← hke.out]
      rw [hBk.out]
      exact hown
end Go.Proofs.Ytiifmakhfpllnaa
