/-
  span.Each: what its iterator hands out.
-/
import Derived.Test.YtiifmakhfpllnaaGreatM10
import Derived.Test.YtiifmakhfpllnaaGreatM11
import Derived.RangeFuncBound
import Derived.Shelf.RegionOpen
import Derived.OwnWalkIn
import Derived.TacticsInMore
import Derived.LoopNIn
import Derived.LoopIn
namespace Go.Proofs.YtiifmakhfpllnaaGreat
open Go.RowKit Go.Maps
attribute [local go_sem] Oper.semAt_some

/-- the extents of a kind -/
def ofKind (l : List Op3) (k : Int) : List Op3 := (ofE (kindsE l)).filter fun x => x.2.2 == k
theorem filter_next {α : Type} (d : α) (p : α → Bool) {E : List α} {k : Nat} (hk : k < E.length) (hp : p (E.getD k d) = true) :
    ((E.take k).filter p).length < (E.filter p).length ∧ (E.filter p).getD ((E.take k).filter p).length d = E.getD k d ∧ ((E.take (k + 1)).filter p).length = ((E.take k).filter p).length + 1 := by
  have hg : E[k] = E.getD k d := by rw [List.getD_eq_getElem?_getD, List.getElem?_eq_getElem hk]; rfl
  have e1 : E.filter p = (E.take k).filter p ++ E.getD k d :: (E.drop (k + 1)).filter p := by
    have h2 : E = E.take k ++ E.getD k d :: E.drop (k + 1) := by rw [← drop_getD d hk, List.take_append_drop]
    have h3 : E.filter p = (E.take k ++ E.getD k d :: E.drop (k + 1)).filter p := congrArg (fun l => List.filter p l) h2
    rw [h3, List.filter_append, List.filter_cons, if_pos hp]
  refine ⟨by rw [e1]; simp, ?_, ?_⟩
  · rw [e1, List.getD_eq_getElem?_getD, List.getElem?_append_right (Nat.le_refl _)]
    simp
  · rw [List.take_succ_eq_append_getElem hk, hg, List.filter_append, List.length_append, List.filter_cons, if_pos hp]
    rfl
theorem filter_skip {α : Type} (d : α) (p : α → Bool) {E : List α} {k : Nat} (hk : k < E.length) (hp : p (E.getD k d) = false) : ((E.take (k + 1)).filter p).length = ((E.take k).filter p).length := by
  have hg : E[k] = E.getD k d := by rw [List.getD_eq_getElem?_getD, List.getElem?_eq_getElem hk]; rfl
  rw [List.take_succ_eq_append_getElem hk, hg, List.filter_append, List.length_append, List.filter_cons, if_neg (by rw [hp]; decide)]
  rfl
set_option maxRecDepth 100000 in
set_option maxHeartbeats 2000000 in
theorem each_seq (bl bk : Nat) (vl : Value) (l : List Op3) (kind : Int) (w : World) (hbl : Blk w bl [vl] 85) (hbk : Blk w bk [.int .i64 kind] 3) (hv : SlP w vl l) :
    Seq Tryz.prog 101 #[.pointer (some ⟨bl, 0, none⟩), .pointer (some ⟨bk, 0, none⟩)] [] (fun x => x = bk) (ofKind l kind).length
      (fun k _ args => args = #[.int .i64 ((ofKind l kind).getD k z3).1, .int .i64 ((ofKind l kind).getD k z3).2.1]) w := by
  intro lp J Jx fp W hFW hl1 hl2 hst hsx hfp hJ hY
  have hvW := hv.fr0 hFW
  have hblW := hbl.fr0 hFW
  have hbkW := hbk.fr0 hFW
  have c1 := hblW.cell
  obtain ⟨a, cap, rfl, hlc, hcm, _⟩ := hvW.open
  have key := sNorm_calls _ l W hvW
  unfold ofKind at *
  generalize ofE (kindsE l) = E at *
  have Hn : ∀ k, k < E.length → (E.getD k z3).2.2 = kind → Hid (((E.take k).filter fun x => x.2.2 == kind).length < (E.filter fun x => x.2.2 == kind).length ∧ (E.filter fun x => x.2.2 == kind).getD ((E.take k).filter fun x => x.2.2 == kind).length z3 = E.getD k z3 ∧ ((E.take (k + 1)).filter fun x => x.2.2 == kind).length = ((E.take k).filter fun x => x.2.2 == kind).length + 1) := fun k hk he => hidIt (filter_next z3 _ hk (beq_iff_eq.2 he))
  have Hs : ∀ k, k < E.length → (E.getD k z3).2.2 ≠ kind → Hid (((E.take (k + 1)).filter fun x => x.2.2 == kind).length = ((E.take k).filter fun x => x.2.2 == kind).length) := fun k hk he => hidIt (filter_skip z3 _ hk (beq_eq_false_iff_ne.2 he))
  have Hd : Hid (((E.take E.length).filter fun x => x.2.2 == kind).length = (E.filter fun x => x.2.2 == kind).length) := hidIt (by rw [List.take_length])
  have H0 : ((E.take 0).filter fun x => x.2.2 == kind).length = 0 := by simp
  generalize hC : (fun k => ((E.take k).filter fun x => x.2.2 == kind).length) = C at *
  replace Hn : ∀ k, k < E.length → (E.getD k z3).2.2 = kind → Hid (C k < (E.filter fun x => x.2.2 == kind).length ∧ (E.filter fun x => x.2.2 == kind).getD (C k) z3 = E.getD k z3 ∧ C (k + 1) = C k + 1) := by rw [← hC]; exact Hn
  replace Hs : ∀ k, k < E.length → (E.getD k z3).2.2 ≠ kind → Hid (C (k + 1) = C k) := by rw [← hC]; exact Hs
  replace Hd : Hid (C E.length = (E.filter fun x => x.2.2 == kind).length) := by rw [← hC]; exact Hd
  replace H0 : C 0 = 0 := by rw [← hC]; exact H0
  clear hC
  generalize (E.filter fun x => x.2.2 == kind) = xs at *
  refine callsIn_of_wp Tryz.func101 rfl trivial ?_ rfl
  simp only [Tryz.ntmps101, List.size_toArray, List.length_cons, List.length_nil, Nat.reduceAdd, Nat.reduceSub, Array.replicate_succ, Array.replicate_zero, List.push_toArray, List.append_toArray, List.nil_append, List.cons_append]
  gi_wp2_with fail
  refine ⟨trivial, rfl, (callsIn_wide.2 key).mono ?_⟩
  rintro e w1 ⟨v1, rfl, hs1, hf1, hb1⟩
  obtain ⟨a1, cap1, rfl, hlc1, hcm1, _⟩ := hs1.open
  have hbk1 := hbkW.fr0 hf1
  have hJ1 := hst 0 fp W w1 [] hJ hf1 (fun x h => by cases h)
  have hsz1 := hf1.size
  have hfp1 : ∀ x ∈ fp, x < w1.heap.size ∧ x ≠ bk ∧ ∀ p, a1 = some p → p.block ≠ x := fun x hx => ⟨by have := (hfp x hx).1; omega, (hfp x hx).2, fun p hp he => by
    have := hb1 p.block (by simp [Value.ownBlock, hp])
    have := (hfp x hx).1
    omega⟩
  unfold maxLen at hcm1
  have hJ0 : J (C 0) fp w1 := by rw [H0]; exact hJ1
  clear hbl hbk hv hvW hblW hbkW c1 hJ hfp hJ1 H0
  gi_wp2_with fail
  gi_loopw [5, 9] (fun _ i wr => ∃ (k : Nat) (f : List Nat), k ≤ E.length ∧ i = .int .i64 k ∧ J (C k) f wr ∧ (∀ x ∈ f, x < wr.heap.size ∧ x ≠ bk ∧ ∀ p, a1 = some p → p.block ≠ x) ∧ Blk wr bk [.int .i64 kind] 3 ∧ SlP wr (.slice a1 E.length cap1) E ∧ W.heap.size ≤ wr.heap.size) (fun _ i _ => E.length - (intOf i).toNat)
  case atStart => exact ⟨0, fp, Nat.zero_le _, rfl, hJ0, hfp1, hbk1, hs1, hsz1⟩
  case round =>
    clear hJ0 hfp1 hbk1 hs1 hsz1 hf1 hb1
    obtain ⟨k, f, hk, rfl, hj, hf, hbk, hsl, hsz⟩ := hrel
    have c2 := hbk.cell
    have l2 := hbk.lt
    by_cases hlt : k < E.length
    · obtain ⟨b, off, rfl, hb, d0, d1, d2⟩ := SlP.at hsl hlt
      by_cases he : (E.getD k z3).2.2 = kind
      · obtain ⟨n1, n2, n3⟩ := (Hn k hlt he).out
        replace n3 := hidIt n3
        have hFa : Fr [] wr (wr.alloc (.cells #[.int .i64 (E.getD k z3).1, .int .i64 (E.getD k z3).2.1, .int .i64 (E.getD k z3).2.2] 123)) := (Fr.refl _ _).alloc _
        have hy := hY (C k) f _ _ n1 (hst _ _ _ _ [] hj hFa (fun x h => by cases h)) rfl
        rw [n2] at hy
        have hbk' := hbk.fr0 hFa
        have hsl' := SlF.fr0 hsl hFa
        have hsza := hFa.size
        clear Hn Hs Hd
        generalize E.getD k z3 = x at *
        obtain ⟨p, q, r⟩ := x
        simp only at d0 d1 d2 he hy
        subst he
        obtain ⟨fn', tmps', assign', body', hyy, hR⟩ := hy
        clear hY hst n2
        gi_wp2_with fail
        refine ⟨rfl, hR.mono ?_⟩
        clear hR hyy
        rintro e w4 (⟨rfl, f', hj4, hf4, hg4⟩ | ⟨rfl, hjx⟩)
        · have q4 := hf4.size
          have nb : ∀ y, y ∈ f → y < wr.heap.size ∧ y ≠ bk ∧ b ≠ y := fun y hy => ⟨(hf y hy).1, (hf y hy).2.1, (hf y hy).2.2 _ rfl⟩
          have hbk4 := hbk'.fr hf4 (fun h => (nb _ h).2.1 rfl)
          have hsl4 : SlP w4 (.slice (some ⟨b, off, none⟩) E.length cap1) E := SlF.fr hsl' hf4 (fun y hy hm => by cases hy; exact (nb _ hm).2.2 rfl)
          have hg : ∀ y, y ∈ f' → y < w4.heap.size ∧ y ≠ bk ∧ ∀ p : Addr, some (⟨b, off, none⟩ : Addr) = some p → p.block ≠ y := fun y hy => by
            refine ⟨(hg4 y hy).1, ?_⟩
            rcases (hg4 y hy).2 with h | h
            · exact ⟨(nb y h).2.1, fun p hp => by cases hp; exact (nb y h).2.2⟩
            · exact ⟨by omega, fun p hp => by cases hp; show b ≠ y; omega⟩
          gi_wp2
          go_roundw
          case rel => exact ⟨k + 1, f', by omega, by go_num, by rw [n3.out]; exact hj4, hg, hbk4, hsl4, by omega⟩
          case measure => simp [intOf]; omega
        · gi_wp2
          refine bodyPost_ret (results_none rfl _ _ _) rfl ?_
          exact ⟨⟨_, rfl⟩, .inr hjx⟩
      · have n3 := Hs k hlt he
        have hFa : Fr [] wr (wr.alloc (.cells #[.int .i64 (E.getD k z3).1, .int .i64 (E.getD k z3).2.1, .int .i64 (E.getD k z3).2.2] 123)) := (Fr.refl _ _).alloc _
        have hj' := hst _ _ _ _ [] hj hFa (fun x h => by cases h)
        have hbk' := hbk.fr0 hFa
        have hsl' := SlF.fr0 hsl hFa
        have hsza := hFa.size
        clear Hn Hs Hd hY hst
        generalize E.getD k z3 = x at *
        obtain ⟨p, q, r⟩ := x
        simp only at d0 d1 d2 he hj' hsza
        have hbe : ((r : Int) == kind) = false := by simpa using he
        gi_wp2
        refine ⟨fun _ h => (by cases h), ?_⟩
        gi_wp2
        go_roundw
        case rel => exact ⟨k + 1, f, by omega, by go_num, by rw [n3.out]; exact hj', fun y hy => ⟨by have := (hf y hy).1; omega, (hf y hy).2⟩, hbk', hsl', by omega⟩
        case measure => simp [intOf]; omega
    · have hke : k = E.length := by omega
      have hj' : J xs.length f wr := by rw [← Hd.out, ← hke]; exact hj
      clear hst hY Hn Hs Hd hke
      gi_wp2
      go_end0
      exact ⟨⟨_, rfl⟩, .inl ⟨f, hj'⟩⟩
/-! ### span.Each -/
set_option maxRecDepth 100000 in
set_option maxHeartbeats 800000 in
theorem sEach_calls (vl : Value) (kind : Int) (a : Option Addr) (n c : Nat) (hvl : vl = .slice a n c) (w : World) : Calls Tryz.prog 93 #[vl, .int .i64 kind] w fun e w' => ∃ bl bk, e = .returned (.func (.func 101) #[] #[.pointer (some ⟨bl, 0, none⟩), .pointer (some ⟨bk, 0, none⟩)]) ∧
    Blk w' bl [vl] 85 ∧ Blk w' bk [.int .i64 kind] 3 ∧ Fr [] w w' ∧ w.heap.size ≤ bl ∧ w.heap.size ≤ bk := by
  subst hvl
  go_enter Tryz.func93, Tryz.ntmps93
  go_wp2
  go_ret
  exact ⟨_, _, rfl, (Blk.new w [_] _).alloc _, Blk.new' (by simp) [_] _, ((Fr.refl _ _).alloc _).alloc _, Nat.le_refl _, by omega⟩
end Go.Proofs.YtiifmakhfpllnaaGreat
