/-
  span.Each: what its iterator hands out.
-/
import Derived.Test.YtiifmakhfpllnaaM07
import Derived.RangeFuncBound
import Derived.Shelf.RegionOpen
import Derived.OwnWalkIn
import Derived.TacticsInMore
import Derived.LoopNIn
import Derived.LoopIn
import Derived.Test.YtiifmakhfpllnaaM02
import Derived.Test.YtiifmakhfpllnaaM03
namespace Go.Proofs.Ytiifmakhfpllnaa
open Go.RowKit Go.Maps
attribute [local go_sem] Oper.semAt_some

/-- the extents of a kind -/
def ofKind (l : List Op3) (k : Int) : List Op3 := (ofE (kindsE l)).filter fun x => x.2.2 == k
theorem filter_next {α : Type} (d : α) (p : α → Bool) {E : List α} {k : Nat} (hk : k < E.length) (hp : p (E.getD k d) = true) :
    ((E.take k).filter p).length < (E.filter p).length ∧ (E.filter p).getD ((E.take k).filter p).length d = E.getD k d ∧ ((E.take (k + 1)).filter p).length = ((E.take k).filter p).length + 1 := by
  have hg : E[k] = E.getD k d := by rw [List.getD_eq_getElem?_getD, List.getElem?_eq_getElem hk]; rfl
  have e1 : E.filter p = (E.take k).filter p ++ E.getD k d :: (E.drop (k + 1)).filter p := by
    have h2 : E = E.take k ++ E.getD k d :: E.drop (k + 1) := by rw [← drop_getD d hk, List.take_append_drop]
    have h3 : E.filter p = (E.take k ++ E.getD k d :: E.drop (k + 1)).filter p := congrArg (fun l => List.filter p l) h2
    rw [h3, List.filter_append, List.filter_cons, if_pos hp]
  refine ⟨by rw [e1]; simp, ?_, ?_⟩
  · rw [e1, List.getD_eq_getElem?_getD, List.getElem?_append_right (Nat.le_refl _)]
    simp
  · rw [List.take_succ_eq_append_getElem hk, hg, List.filter_append, List.length_append, List.filter_cons, if_pos hp]
    rfl
theorem filter_skip {α : Type} (d : α) (p : α → Bool) {E : List α} {k : Nat} (hk : k < E.length) (hp : p (E.getD k d) = false) : ((E.take (k + 1)).filter p).length = ((E.take k).filter p).length := by
  have hg : E[k] = E.getD k d := by rw [List.getD_eq_getElem?_getD, List.getElem?_eq_getElem hk]; rfl
  rw [List.take_succ_eq_append_getElem hk, hg, List.filter_append, List.length_append, List.filter_cons, if_neg (by rw [hp]; decide)]
  rfl
set_option maxRecDepth 100000 in
set_option maxHeartbeats 2000000 in
theorem each_seq (bl bk : Nat) (vl : Value) (l : List Op3) (kind : Int) (w : World) (hbl : Blk w bl [vl] 86) (hbk : Blk w bk [.int .i64 kind] 3) (hv : SlP w vl l) :
    Seq Try.prog 96 #[.pointer (some ⟨bl, 0, none⟩), .pointer (some ⟨bk, 0, none⟩)] [] (fun x => x = bk) (ofKind l kind).length
      (fun k _ args => args = #[.int .i64 ((ofKind l kind).getD k z3).1, .int .i64 ((ofKind l kind).getD k z3).2.1]) w := by
  intro lp J Jx fp W hFW hl1 hl2 hst hsx hfp hJ hY
  have hvW := hv.fr0 hFW
  have hblW := hbl.fr0 hFW
  have hbkW := hbk.fr0 hFW
  have c1 := hblW.cell
  obtain ⟨a, cap, rfl, hlc, hcm, _⟩ := hvW.open
  have key := sNorm_calls _ l W hvW
  unfold ofKind at *
  generalize ofE (kindsE l) = E at *
  have Hn : ∀ k, k < E.length → (E.getD k z3).2.2 = kind → Hid (((E.take k).filter fun x => x.2.2 == kind).length < (E.filter fun x => x.2.2 == kind).length ∧ (E.filter fun x => x.2.2 == kind).getD ((E.take k).filter fun x => x.2.2 == kind).length z3 = E.getD k z3 ∧ ((E.take (k + 1)).filter fun x => x.2.2 == kind).length = ((E.take k).filter fun x => x.2.2 == kind).length + 1) := fun k hk he => hidIt (filter_next z3 _ hk (beq_iff_eq.2 he))
  have Hs : ∀ k, k < E.length → (E.getD k z3).2.2 ≠ kind → Hid (((E.take (k + 1)).filter fun x => x.2.2 == kind).length = ((E.take k).filter fun x => x.2.2 == kind).length) := fun k hk he => hidIt (filter_skip z3 _ hk (beq_eq_false_iff_ne.2 he))
  have Hd : Hid (((E.take E.length).filter fun x => x.2.2 == kind).length = (E.filter fun x => x.2.2 == kind).length) := hidIt (by rw [List.take_length])
  have H0 : ((E.take 0).filter fun x => x.2.2 == kind).length = 0 := by simp
  generalize hC : (fun k => ((E.take k).filter fun x => x.2.2 == kind).length) = C at *
  replace Hn : ∀ k, k < E.length → (E.getD k z3).2.2 = kind → Hid (C k < (E.filter fun x => x.2.2 == kind).length ∧ (E.filter fun x => x.2.2 == kind).getD (C k) z3 = E.getD k z3 ∧ C (k + 1) = C k + 1) := by rw [← hC]; exact Hn
  replace Hs : ∀ k, k < E.length → (E.getD k z3).2.2 ≠ kind → Hid (C (k + 1) = C k) := by rw [← hC]; exact Hs
  replace Hd : Hid (C E.length = (E.filter fun x => x.2.2 == kind).length) := by rw [← hC]; exact Hd
  replace H0 : C 0 = 0 := by rw [← hC]; exact H0
  clear hC
  generalize (E.filter fun x => x.2.2 == kind) = xs at *
  refine callsIn_of_wp Try.func96 rfl trivial ?_ rfl
  simp only [Try.ntmps96, List.size_toArray, List.length_cons, List.length_nil, Nat.reduceAdd, Nat.reduceSub, Array.replicate_succ, Array.replicate_zero, List.push_toArray, List.append_toArray, List.nil_append, List.cons_append]
  gi_wp2_with fail
  refine ⟨trivial, rfl, (callsIn_wide.2 key).mono ?_⟩
  rintro e w1 ⟨v1, rfl, hs1, hf1, hb1⟩
  obtain ⟨a1, cap1, rfl, hlc1, hcm1, _⟩ := hs1.open
  have hbk1 := hbkW.fr0 hf1
  have hJ1 := hst 0 fp W w1 [] hJ hf1 (fun x h => by cases h)
  have hsz1 := hf1.size
  have hfp1 : ∀ x ∈ fp, x < w1.heap.size ∧ x ≠ bk ∧ ∀ p, a1 = some p → p.block ≠ x := fun x hx => ⟨by have := (hfp x hx).1; omega, (hfp x hx).2, fun p hp he => by
    have := hb1 p.block (by simp [Value.ownBlock, hp])
    have := (hfp x hx).1
    omega⟩
  unfold maxLen at hcm1
  have hJ0 : J (C 0) fp w1 := by rw [H0]; exact hJ1
  clear hbl hbk hv hvW hblW hbkW c1 hJ hfp hJ1 H0
  gi_wp2_with fail
  gi_loopw [5, 9] (fun _ i wr => ∃ (k : Nat) (f : List Nat), k ≤ E.length ∧ i = .int .i64 k ∧ J (C k) f wr ∧ (∀ x ∈ f, x < wr.heap.size ∧ x ≠ bk ∧ ∀ p, a1 = some p → p.block ≠ x) ∧ Blk wr bk [.int .i64 kind] 3 ∧ SlP wr (.slice a1 E.length cap1) E ∧ W.heap.size ≤ wr.heap.size) (fun _ i _ => E.length - (intOf i).toNat)
  case atStart => exact ⟨0, fp, Nat.zero_le _, rfl, hJ0, hfp1, hbk1, hs1, hsz1⟩
  case round =>
    clear hJ0 hfp1 hbk1 hs1 hsz1 hf1 hb1
    obtain ⟨k, f, hk, rfl, hj, hf, hbk, hsl, hsz⟩ := hrel
    have c2 := hbk.cell
    have l2 := hbk.lt
    by_cases hlt : k < E.length
    · obtain ⟨b, off, rfl, hb, d0, d1, d2⟩ := SlP.at hsl hlt
      by_cases he : (E.getD k z3).2.2 = kind
      · obtain ⟨n1, n2, n3⟩ := (Hn k hlt he).out
        replace n3 := hidIt n3
        have hFa : Fr [] wr (wr.alloc (.cells #[.int .i64 (E.getD k z3).1, .int .i64 (E.getD k z3).2.1, .int .i64 (E.getD k z3).2.2] 117)) := (Fr.refl _ _).alloc _
        have hy := hY (C k) f _ _ n1 (hst _ _ _ _ [] hj hFa (fun x h => by cases h)) rfl
        rw [n2] at hy
        have hbk' := hbk.fr0 hFa
        have hsl' := SlF.fr0 hsl hFa
        have hsza := hFa.size
        clear Hn Hs Hd
        generalize E.getD k z3 = x at *
        obtain ⟨p, q, r⟩ := x
        simp only at d0 d1 d2 he hy
        subst he
        obtain ⟨fn', tmps', assign', body', hyy, hR⟩ := hy
        clear hY hst n2
        gi_wp2_with fail
        refine ⟨rfl, hR.mono ?_⟩
        clear hR hyy
        rintro e w4 (⟨rfl, f', hj4, hf4, hg4⟩ | ⟨rfl, hjx⟩)
        · have q4 := hf4.size
          have nb : ∀ y, y ∈ f → y < wr.heap.size ∧ y ≠ bk ∧ b ≠ y := fun y hy => ⟨(hf y hy).1, (hf y hy).2.1, (hf y hy).2.2 _ rfl⟩
          have hbk4 := hbk'.fr hf4 (fun h => (nb _ h).2.1 rfl)
          have hsl4 : SlP w4 (.slice (some ⟨b, off, none⟩) E.length cap1) E := SlF.fr hsl' hf4 (fun y hy hm => by cases hy; exact (nb _ hm).2.2 rfl)
          have hg : ∀ y, y ∈ f' → y < w4.heap.size ∧ y ≠ bk ∧ ∀ p : Addr, some (⟨b, off, none⟩ : Addr) = some p → p.block ≠ y := fun y hy => by
            refine ⟨(hg4 y hy).1, ?_⟩
            rcases (hg4 y hy).2 with h | h
            · exact ⟨(nb y h).2.1, fun p hp => by cases hp; exact (nb y h).2.2⟩
            · exact ⟨by omega, fun p hp => by cases hp; show b ≠ y; omega⟩
          gi_wp2
          go_roundw
          case rel => exact ⟨k + 1, f', by omega, by go_num, by rw [n3.out]; exact hj4, hg, hbk4, hsl4, by omega⟩
          case measure => simp [intOf]; omega
        · gi_wp2
          refine bodyPost_ret (results_none rfl _ _ _) rfl ?_
          exact ⟨⟨_, rfl⟩, .inr hjx⟩
      · have n3 := Hs k hlt he
        have hFa : Fr [] wr (wr.alloc (.cells #[.int .i64 (E.getD k z3).1, .int .i64 (E.getD k z3).2.1, .int .i64 (E.getD k z3).2.2] 117)) := (Fr.refl _ _).alloc _
        have hj' := hst _ _ _ _ [] hj hFa (fun x h => by cases h)
        have hbk' := hbk.fr0 hFa
        have hsl' := SlF.fr0 hsl hFa
        have hsza := hFa.size
        clear Hn Hs Hd hY hst
        generalize E.getD k z3 = x at *
        obtain ⟨p, q, r⟩ := x
        simp only at d0 d1 d2 he hj' hsza
        have hbe : ((r : Int) == kind) = false := by simpa using he
        gi_wp2
        refine ⟨fun _ h => (by cases h), ?_⟩
        gi_wp2
        go_roundw
        case rel => exact ⟨k + 1, f, by omega, by go_num, by rw [n3.out]; exact hj', fun y hy => ⟨by have := (hf y hy).1; omega, (hf y hy).2⟩, hbk', hsl', by omega⟩
        case measure => simp [intOf]; omega
    · have hke : k = E.length := by omega
      have hj' : J xs.length f wr := by rw [← Hd.out, ← hke]; exact hj
      clear hst hY Hn Hs Hd hke
      gi_wp2
      go_end0
      exact ⟨⟨_, rfl⟩, .inl ⟨f, hj'⟩⟩
/-! ### span.Each -/
set_option maxRecDepth 100000 in
set_option maxHeartbeats 800000 in
theorem sEach_calls (vl : Value) (kind : Int) (a : Option Addr) (n c : Nat) (hvl : vl = .slice a n c) (w : World) : Calls Try.prog 90 #[vl, .int .i64 kind] w fun e w' => ∃ bl bk, e = .returned (.func (.func 96) #[] #[.pointer (some ⟨bl, 0, none⟩), .pointer (some ⟨bk, 0, none⟩)]) ∧
    Blk w' bl [vl] 86 ∧ Blk w' bk [.int .i64 kind] 3 ∧ Fr [] w w' ∧ w.heap.size ≤ bl ∧ w.heap.size ≤ bk := by
  subst hvl
  go_enter Try.func90, Try.ntmps90
  go_wp2
  go_ret
  exact ⟨_, _, rfl, (Blk.new w [_] _).alloc _, Blk.new' (by simp) [_] _, ((Fr.refl _ _).alloc _).alloc _, Nat.le_refl _, by omega⟩
end Go.Proofs.Ytiifmakhfpllnaa

namespace Go.Proofs.Ytiifmakhfpllnaa
open Go.RowKit Go.Maps

theorem infoBool : (Try.prog.info? 4).map (fun i => (i.zero, i.size, i.bytes)) = some (some (.bool false), 1, 1) := by kernel_rfl
set_option maxHeartbeats 400000 in
theorem inside_calls (S g : Nat) (v : Value) (f n : Int) (w : World) (hS : S ≤ 4096) (fw : -9223372036854775808 ≤ n ∧ n ≤ 9223372036854775807) :
    Calls Try.prog 80 #[.agg #[.int .i64 S, .int .i64 g, v], .int .i64 f, .int .i64 n] w fun e w' => e = .returned (.bool (decide (insideB S f n))) ∧ Fr [] w w' := by
  have H : Hid (insideB S f n ↔ 0 ≤ n ∧ 0 ≤ f ∧ n ≤ S ∧ f ≤ S - n) := hidIt Iff.rfl
  have B3 := Blk.new w [.int .i64 S, .int .i64 g, v] 78
  have c3 := B3.cell
  by_cases h1 : n < 0
  · have hd : decide (insideB S f n) = false := by simp; intro h; have := h.1; omega
    rw [hd]
    clear H hd
    go_enter Try.func80, Try.ntmps80
    go_wp2
    go_ret
    exact ⟨rfl, (Fr.refl _ _).alloc _⟩
  · by_cases h2 : f < 0
    · have hd : decide (insideB S f n) = false := by simp; intro h; have := h.2.1; omega
      rw [hd]
      clear H hd
      have h1' : 0 ≤ n := by omega
      go_enter Try.func80, Try.ntmps80
      go_wp2
      go_ret
      exact ⟨rfl, (Fr.refl _ _).alloc _⟩
    · have h1' : 0 ≤ n := by omega
      have h2' : 0 ≤ f := by omega
      by_cases h3 : n ≤ S
      · have hd : decide (insideB S f n) = decide (f ≤ (S : Int) - n) := by rw [decide_eq_decide]; rw [H.out]; omega
        rw [hd]
        clear H hd h1 h2
        go_enter Try.func80, Try.ntmps80
        go_wp2
        go_ret
        exact ⟨rfl, (Fr.refl _ _).alloc _⟩
      · have hd : decide (insideB S f n) = false := by simp; intro h; have := h.2.2.1; omega
        rw [hd]
        clear H hd h1 h2
        have h3' : (S : Int) < n := by omega
        go_enter Try.func80, Try.ntmps80
        go_wp2
        go_ret
        exact ⟨rfl, (Fr.refl _ _).alloc _⟩
def fewO (o : Op3) : Bool := !(decide (o.1 = 2) && decide (100 < o.2.2) && decide (o.2.2 ≤ 4096))
def fewS (s : Int) (l : List Op3) : Bool := l.all fewO && (decide (l.length ≤ 60) && (decide (s ≤ 100) || decide (4096 < s)))
end Go.Proofs.Ytiifmakhfpllnaa

namespace Go.Proofs.Ytiifmakhfpllnaa
open Go.RowKit Go.Maps

def P2 (x : Int) : Prop := x = 1 ∨ x = 2 ∨ x = 4 ∨ x = 8 ∨ x = 16 ∨ x = 32 ∨ x = 64 ∨ x = 128
theorem P2_step {x : Int} (h : P2 x) (hx : x ≤ 64) : P2 (x + x) ∧ 1 ≤ x ∧ x ≤ 128 := by unfold P2 at *; omega
theorem P2_le {x : Int} (h : P2 x) : 1 ≤ x ∧ x ≤ 128 := by unfold P2 at *; omega
theorem P2_no {x g : Int} (h : P2 x) (hx : x ≤ 64) (hg : pow2 g = false) : x ≠ g := by
  rintro rfl
  simp [pow2] at hg
  unfold P2 at h
  omega
theorem P2_far {x g : Int} (h : P2 x) (hg : pow2 g = true) (hx : x ≤ g) (hn : x ≠ g) : x + x ≤ g := by
  simp [pow2] at hg
  unfold P2 at h
  omega
def z0 : Value := .agg #[.int .i64 0, .int .i64 0, .slice none 0 0]
set_option maxRecDepth 100000 in
set_option maxHeartbeats 800000 in
theorem rNew_no (s g : Int) (w : World) (h : okNew s g = false) : Calls Try.prog 75 #[.int .i64 s, .int .i64 g] w
      fun e w' => e = .returned (.tuple #[z0, .bool false]) ∧ Fr [] w w' := by
  by_cases hs : okSec s = true
  · have hp : pow2 g = false := by simpa [okNew, hs] using h
    have hs1 : 0 ≤ s ∧ s ≤ 4096 := by simpa [okSec] using hs
    have h1 := hs1.1
    have h2 := hs1.2
    have B4 := Blk.new w [.int .i64 0, .int .i64 0, .slice none 0 0] 78
    have B4c := B4.cell
    clear hs hs1 h
    go_enter Try.func75, Try.ntmps75
    go_wp2
    go_loopw [6] (fun i wr => ∃ x : Int, P2 x ∧ i = .int .i64 x ∧ wr = w.alloc (.cells #[.int .i64 0, .int .i64 0, .slice none 0 0] 78)) (fun i _ => 200 - (intOf i).toNat)
    case atStart => exact ⟨1, .inl rfl, rfl, rfl⟩
    case round =>
      obtain ⟨x, hx, rfl, rfl⟩ := hrel
      have hx1 := P2_le hx
      by_cases h64 : x ≤ 64
      · have hne := P2_no hx h64 hp
        have hst := hidIt (P2_step hx h64)
        clear hx
        go_wp2
        go_roundw
        case rel => exact ⟨x + x, hst.out.1, by go_num, trivial⟩
        case measure => simp [intOf]; omega
      · clear hx
        go_wp2
        exact bodyPost_ret (v := .tuple #[z0, .bool false]) (by simp [results, Try.results75, go_sem, z0, B4c]) rfl ⟨rfl, (Fr.refl _ _).alloc _⟩
  · have hs1 : s < 0 ∨ 4096 < s := by simp [okSec] at hs; omega
    clear hs h
    have B4 := Blk.new w [.int .i64 0, .int .i64 0, .slice none 0 0] 78
    have B4c := B4.cell
    rcases hs1 with hs1 | hs1
    · go_enter Try.func75, Try.ntmps75
      go_wp2
      exact bodyPost_ret (v := .tuple #[z0, .bool false]) (by simp [results, Try.results75, go_sem, z0, B4c]) rfl ⟨rfl, (Fr.refl _ _).alloc _⟩
    · have h0 : 0 ≤ s := by omega
      go_enter Try.func75, Try.ntmps75
      go_wp2
      exact bodyPost_ret (v := .tuple #[z0, .bool false]) (by simp [results, Try.results75, go_sem, z0, B4c]) rfl ⟨rfl, (Fr.refl _ _).alloc _⟩
def rb (S g : Nat) (v : Value) : Value := .agg #[.int .i64 S, .int .i64 g, v]
set_option maxRecDepth 100000 in
set_option maxHeartbeats 1600000 in
theorem rNew_yes (S g : Nat) (w : World) (hS : S ≤ 4096) (hp : pow2 g = true) : Calls Try.prog 75 #[.int .i64 (S : Int), .int .i64 (g : Int)] w
      fun e w' => ∃ v, e = .returned (.tuple #[rb S g v, .bool true]) ∧ w'.ownsRow w.heap.size 4 1 v (gran S g) ((List.replicate (gran S g) false).flatMap boolC) ∧ Fr [] w w' := by
  have hg := pow2_le hp
  have hg0 : 0 < g := by omega
  have hle := gran_le hS hg0
  have B4 := Blk.new w [.int .i64 0, .int .i64 0, .slice none 0 0] 78
  have B4c := B4.cell
  have B4f := B4.frozen
  go_enter Try.func75, Try.ntmps75
  go_wp2
  go_loopw [6] (fun i wr => ∃ x : Int, P2 x ∧ x ≤ g ∧ i = .int .i64 x ∧ wr = w.alloc (.cells #[.int .i64 0, .int .i64 0, .slice none 0 0] 78)) (fun i _ => 200 - (intOf i).toNat)
  case atStart => exact ⟨1, .inl rfl, hg.1, rfl, rfl⟩
  case round =>
    obtain ⟨x, hx, hxg, rfl, rfl⟩ := hrel
    have hx1 := P2_le hx
    have h64 : x ≤ 64 := by omega
    by_cases hne : x = g
    · subst hne
      clear hx hxg hx1 hp
      go_wp2_with fail
      go_loopw [8] (fun n wr => ∃ (k : Nat) (v : Value), k ≤ gran S g ∧ n = .int .i64 ((k * g : Nat) : Int) ∧ Blk wr (w.heap.size + 1) [.int .i64 S, .int .i64 g, v] 78 ∧ Blk wr w.heap.size [.int .i64 0, .int .i64 0, .slice none 0 0] 78 ∧
        wr.ownsRow (w.heap.size + 2) 4 1 v k ((List.replicate k false).flatMap boolC) ∧ Fr [] w wr) (fun n _ => S - (intOf n).toNat)
      case atStart =>
        exact ⟨0, .slice none 0 0, Nat.zero_le _, by simp, Blk.new' (by simp) [_, _, _] _, B4.alloc _, World.ownsRow_nil _ _ _ _, ((Fr.refl _ _).alloc _).alloc _⟩
      case round =>
        obtain ⟨k, v, hk, rfl, B7, B4', hown, hF⟩ := hrel
        obtain ⟨av, cv, rfl, _, _, _⟩ := Sl.of_owns hown
        have hcl := ceil_lt (X := S) (g := g) (k := k) hg0
        have hcl : k < gran S g ↔ k * g < S := hcl
        have hnx : Hid ((k + 1) * g = k * g + g) := hidIt (Nat.succ_mul k g)
        have Hrep : Hid ((List.replicate (k + 1) false).flatMap boolC = (List.replicate k false).flatMap boolC ++ boolC false) := hidIt (by rw [List.replicate_succ', List.flatMap_append]; simp)
        have hkg : k * g < 1000000 := by
          have : k * g ≤ 4096 * 64 := Nat.mul_le_mul (by omega) (by omega)
          omega
        generalize k * g = m at *
        have b7 := B7.cell
        have f7 := B7.frozen
        have b4 := B4'.cell
        have f4 := B4'.frozen
        have hsz := hF.size
        have hbl := B7.lt
        by_cases hlt : m < S
        · have hk' := hcl.2 hlt
          have hb2 : w.heap.size + 2 ≤ (wr.alloc (.cells #[.bool false] 4)).heap.size := by simp; omega
          clear hcl hg
          go_wp2_with (at_builtin; refine wpList_append1 76 4 (.bool false) 1 1 Try.underlying76 infoBool rfl (by decide) (by decide) rfl _ _ rfl (w.heap.size + 2) _ k _ rfl (hown.alloc _) (boolC false) rfl bool_one wr.heap.size rfl (Blk.new _ _ _) (by omega) hb2 ?_; intro v' w2 hown2 hgrow hloc; obtain ⟨av', cv', rfl, _, _, _⟩ := Sl.of_owns hown2; have hgf := Fr.of_grown hgrow; have B72 := (B7.alloc _).fr hgf (own_notin hown (by omega)); have B42 := (B4'.alloc _).fr hgf (own_notin hown (by omega)); have b72 := B72.cell; have f72 := B72.frozen)
          have hob := own_base hown
          go_roundw
          case rel =>
            refine ⟨k + 1, .slice av' (k + 1) cv', by omega, by rw [hnx.out]; go_num, ?_, B42.other (by simp) _, ?_, ?_⟩
            · exact B72.setCell 2 _
            · rw [Hrep.out]
              exact owns_setCell hown2 (by simp) _
            · exact (((hF.alloc _).grown hgrow (fun x hx => .inr (by have := hob x hx; omega)))).setCell (.inr (by simp)) _
          case measure => simp [intOf]; omega
        · have hke : k = gran S g := by omega
          subst hke
          clear hcl hg
          go_wp2
          exact bodyPost_ret (v := .tuple #[rb S g (.slice av (gran S g) cv), .bool true]) (by simp [results, Try.results75, go_sem, rb, b4]) rfl ⟨_, rfl, owns_base (owns_setCell (owns_setCell (owns_setCell hown (by simp) _) (by simp) _) (by simp) _) (by omega), ((hF.setCell (.inr (Nat.le_refl _)) _).setCell (.inr (Nat.le_refl _)) _).setCell (.inr (Nat.le_refl _)) _⟩
    · have hfar := hidIt (P2_far hx hp hxg hne)
      have hst := hidIt (P2_step hx h64)
      clear hx hp
      go_wp2
      go_roundw
      case rel => exact ⟨x + x, hst.out.1, hfar.out, by go_num, trivial⟩
      case measure => simp [intOf]; omega
end Go.Proofs.Ytiifmakhfpllnaa

namespace Go.Proofs.Ytiifmakhfpllnaa
open Go.RowKit Go.Maps

/-- as far as s: is one among them? are all? -/
def oneTo (m f n s : Nat) : Bool := decide (max m f < min s (f + n))
def allTo (m f n s : Nat) : Bool := decide (s ≤ m ∨ (f ≤ m ∧ s ≤ f + n))
theorem oneTo_start (m f n : Nat) : oneTo m f n m = false := by simp [oneTo]; omega
theorem allTo_start (m f n : Nat) : allTo m f n m = true := by simp [allTo]
theorem to_in {m f n s : Nat} (hm : m ≤ s) (h1 : f ≤ s) (h2 : s < f + n) : oneTo m f n (s + 1) = true ∧ allTo m f n (s + 1) = allTo m f n s := by
  simp only [oneTo, allTo, decide_eq_true_eq, decide_eq_decide]
  omega
theorem to_out {m f n s : Nat} (hm : m ≤ s) (h : ¬ (f ≤ s ∧ s < f + n)) : oneTo m f n (s + 1) = oneTo m f n s ∧ allTo m f n (s + 1) = false := by
  simp only [oneTo, allTo, decide_eq_false_iff_not, decide_eq_decide]
  omega
theorem to_end {S g f n k s : Nat} (h : s = min (k * g + g) S) (hk : k * g < S) (hg : 0 < g) : oneTo (k * g) f n s = oneB S g f n k ∧ allTo (k * g) f n s = allB S g f n k := by
  subst h
  simp only [oneTo, allTo, oneB, allB]
  constructor
  · trivial
  · rw [Bool.eq_iff_iff]; simp; omega
/-- the row when k granules have been gone through -/
def mixB (R l : List Bool) (k : Nat) : List Bool := (List.range l.length).map fun i => if i < k then R.getD i false else l.getD i false
theorem mixB_len (R l : List Bool) (k : Nat) : (mixB R l k).length = l.length := by simp [mixB]
theorem mixB_getD (R l : List Bool) (k i : Nat) (hi : i < l.length) : (mixB R l k).getD i false = if i < k then R.getD i false else l.getD i false := getD_range l _ hi
theorem mixB_start (R l : List Bool) : mixB R l 0 = l := extB (mixB_len ..) fun i hi => by
  rw [mixB_len] at hi
  rw [mixB_getD _ _ _ _ hi, if_neg (by omega)]
theorem mixB_end {R l : List Bool} (h : R.length = l.length) : mixB R l l.length = R := extB (by rw [mixB_len, h]) fun i hi => by
  rw [mixB_len] at hi
  rw [mixB_getD _ _ _ _ hi, if_pos hi]
theorem mixB_step (R l : List Bool) (k : Nat) (hk : k < l.length) : mixB R l (k + 1) = (mixB R l k).set k (R.getD k false) := extB (by simp [mixB_len]) fun i hi => by
  rw [mixB_len] at hi
  rw [getD_setB _ _ _ _ (by rw [mixB_len]; exact hk), mixB_getD _ _ _ _ hi, mixB_getD _ _ _ _ hi]
  by_cases h1 : i = k
  · subst h1; rw [if_pos rfl, if_pos (by omega)]
  · rw [if_neg h1]
    by_cases h2 : i < k
    · rw [if_pos h2, if_pos (by omega)]
    · rw [if_neg h2, if_neg (by omega)]
theorem mixB_same (R l : List Bool) (k : Nat) (hk : k < l.length) (h : R.getD k false = l.getD k false) : mixB R l (k + 1) = mixB R l k := extB (by simp [mixB_len]) fun i hi => by
  rw [mixB_len] at hi
  rw [mixB_getD _ _ _ _ hi, mixB_getD _ _ _ _ hi]
  by_cases h1 : i = k
  · subst h1; rw [if_pos (by omega), if_neg (by omega), h]
  · by_cases h2 : i < k
    · rw [if_pos h2, if_pos (by omega)]
    · rw [if_neg h2, if_neg (by omega)]
theorem bSet_getD {S g : Nat} {l : List Bool} {f n k : Nat} (hk : k < l.length) : (bSet S g l f n).getD k false = (oneB S g f n k || l.getD k false) := getD_range l _ hk
theorem bClear_getD {S g : Nat} {l : List Bool} {f n k : Nat} (hk : k < l.length) : (bClear S g l f n).getD k false = (!allB S g f n k && l.getD k false) := getD_range l _ hk
end Go.Proofs.Ytiifmakhfpllnaa

namespace Go.Proofs.Ytiifmakhfpllnaa
open Go.RowKit Go.Maps

set_option maxRecDepth 100000 in
set_option maxHeartbeats 4000000 in
theorem rSet_true (S g : Nat) (v : Value) (l : List Bool) (f n : Nat) (w : World) (hv : SlB w v l) (hok : okV v) (hS : S ≤ 4096) (hg : 0 < g ∧ g ≤ 64) (hlen : l.length = gran S g) (hin : f + n ≤ S) :
    Calls Try.prog 41 #[.agg #[.int .i64 S, .int .i64 g, v], .int .i64 (f : Int), .int .i64 (n : Int), .bool true] w
      fun e w' => ∃ v', e = .returned (.tuple #[rb S g v', .int .i64 0]) ∧ SlB w' v' (bSet S g l f n) ∧ okV v' ∧ Fr [] w w' := by
  have hle := gran_le hS hg.1
  have hins : decide (insideB S (f : Int) (n : Int)) = true := by simp [insideB]; omega
  have HR : Hid ((bSet S g l f n).length = l.length) := hidIt (by simp [bSet])
  obtain ⟨av, cv, rfl, _, _, _⟩ := hv.open
  have hle2 : l.length ≤ 4096 := by omega
  replace hlen := hidIt hlen
  go_enter Try.func41, Try.ntmps41
  go_wp2_with fail
  refine (inside_calls S g _ f n _ hS (by omega)).mono ?_
  rintro e w1 ⟨rfl, hf⟩
  rw [hins]
  have hF1 : Fr [] w w1 := (((Fr.refl _ w).alloc _).alloc _).trans0 hf
  have B4 : Blk w1 w.heap.size [.int .i64 S, .int .i64 g, .slice av l.length cv] 78 := ((Blk.new w [_, _, _] _).alloc _).fr0 hf
  have B8 : Blk w1 (w.heap.size + 1) [.int .i64 0, .int .i64 0, .slice none 0 0] 78 := (Blk.new' (by simp) [_, _, _] _).fr0 hf
  have hsz1 := hf.size
  simp only [World.size_alloc] at hsz1
  have hv1 := hv.fr0 hF1
  clear hf hv
  have b4 := B4.cell
  have l4 := B4.lt
  go_wp2_with (at_builtin; refine Hid.out ?_)
  refine hidIt ?_
  refine wpList_append_sl 76 4 (.bool false) 1 1 Try.underlying76 infoBool rfl (by decide) (by decide) rfl _ _ rfl w1.heap.size _ 0 _ rfl (World.ownsRow_made w1 _ 0 (Nat.le_refl _) (by decide) rfl) _ l.length (l.flatMap boolC) (Sl.fr0 hv1 ((Fr.refl _ _).alloc _)) hok (by rw [flatB_length, Nat.mul_one]) (flat_one (fun _ => bool_one) l) rfl (by omega) (by omega) (by simp) ?_
  intro v2 w2 hown2 hgrow
  rw [Nat.zero_add, List.nil_append] at hown2
  have hf2 : Fr [] w1 w2 := ((Fr.refl [] w1).alloc _).grown hgrow (fun x hx => .inr (by cases hx; exact Nat.le_refl _))
  replace hF := hF1.trans0 hf2
  have B42 := B4.fr0 hf2
  have B82 := B8.fr0 hf2
  clear B4 B8 b4 hf2 hgrow hF1 hok hv1
  obtain ⟨a2, c2, rfl, _, _, _⟩ := Sl.of_owns hown2
  go_wp2_with fail
  go_loopw [11] (fun i wr => ∃ k : Nat, k ≤ l.length ∧ i = .int .i64 k ∧ wr.ownsRow w1.heap.size 4 1 (.slice a2 l.length c2) l.length ((mixB (bSet S g l f n) l k).flatMap boolC) ∧
    Blk wr w.heap.size [.int .i64 S, .int .i64 g, .slice av l.length cv] 78 ∧ Blk wr (w.heap.size + 1) [.int .i64 0, .int .i64 0, .slice none 0 0] 78 ∧ Fr [] w wr) (fun i _ => l.length - (intOf i).toNat)
  case atStart => exact ⟨0, Nat.zero_le _, rfl, by rw [mixB_start]; exact hown2, B42, B82, hF⟩
  case round =>
    clear hF B42 B82 hown2
    obtain ⟨k, hk, rfl, hown, B4, B8, hF⟩ := hrel
    have b4 := B4.cell
    have f4 := B4.frozen
    have b8 := B8.cell
    have f8 := B8.frozen
    have hsz := hF.size
    generalize wr = wo at *
    by_cases hlt : k < l.length
    · have hkS : k * g < S := (ceil_lt hg.1).1 (by unfold gran at hlen; have := hlen.out; omega)
      have Hend := fun (s : Nat) (h : s = min (k * g + g) S) => hidIt (to_end (f := f) (n := n) h hkS hg.1)
      have Hst := hidIt (mixB_step (bSet S g l f n) l k hlt)
      have Hsame := fun h => hidIt (mixB_same (bSet S g l f n) l k hlt h)
      have HgR := hidIt (bSet_getD (S := S) (g := g) (f := f) (n := n) hlt)
      have hmlen := mixB_len (bSet S g l f n) l k
      obtain ⟨gb, cap, hva, hgb, _⟩ := owns_succ hown (by omega)
      cases hva
      have hck := owns_at hown (j := k) (u := .bool ((mixB (bSet S g l f n) l k).getD k false)) (by rw [flatB_at, getD_some false (by omega)]; rfl)
      obtain ⟨hcell, hfz⟩ := hck
      have hmul : (k : Int) * (g : Int) = ((k * g : Nat) : Int) := by simp
      generalize k * g = m at *
      have h1s := oneTo_start m f n
      have h2s := allTo_start m f n
      go_wp2_with fail
      go_loopw [12, 13, 14, 15] (fun o a s _ wr => wr = wo ∧ ∃ q : Nat, m ≤ q ∧ q ≤ min (m + g) S ∧ s = .int .i64 q ∧ o = .bool (oneTo m f n q) ∧ a = .bool (allTo m f n q)) (fun _ _ s _ _ => m + g - (intOf s).toNat)
      case atStart => exact ⟨rfl, m, Nat.le_refl _, by omega, rfl, by rw [h1s], by rw [h2s]⟩
      case round =>
        obtain ⟨rfl, q, hmq, hqe, rfl, rfl, rfl⟩ := hrel
        clear h1s h2s
        by_cases hq : q < min (m + g) S
        · clear Hst Hsame HgR hcell hfz hown
          have hq1 : q < m + g := by omega
          have hq2 : q < S := by omega
          by_cases hq3 : f ≤ q ∧ q < f + n
          · obtain ⟨hq3, hq4⟩ := hq3
            have Ho := hidIt (to_in (n := n) hmq hq3 hq4)
            have hq7 : (q : Int) < (f : Int) + (n : Int) := by omega
            clear Hend
            generalize oneTo m f n q = A at *
            generalize allTo m f n q = C at *
            cases A <;> cases C
            all_goals go_wp2
            all_goals go_roundw
            all_goals first
              | exact ⟨rfl, q + 1, by omega, by omega, by go_num, by rw [Ho.out.1], by rw [Ho.out.2]⟩
              | exact ⟨trivial, q + 1, by omega, by omega, by go_num, by rw [Ho.out.1], by rw [Ho.out.2]⟩
              | (simp [intOf]; omega)
          · have Ho := hidIt (to_out (f := f) (n := n) hmq hq3)
            clear Hend
            generalize oneTo m f n q = A at *
            generalize allTo m f n q = C at *
            by_cases hq5 : f ≤ q
            · have hq6 : ¬ (q : Int) < (f : Int) + (n : Int) := by omega
              cases A <;> cases C
              all_goals go_wp2
              all_goals go_roundw
              all_goals first
                | exact ⟨rfl, q + 1, by omega, by omega, by go_num, by rw [Ho.out.1], by rw [Ho.out.2]⟩
                | exact ⟨trivial, q + 1, by omega, by omega, by go_num, by rw [Ho.out.1], by rw [Ho.out.2]⟩
                | (simp [intOf]; omega)
            · cases A <;> cases C
              all_goals go_wp2
              all_goals go_roundw
              all_goals first
                | exact ⟨rfl, q + 1, by omega, by omega, by go_num, by rw [Ho.out.1], by rw [Ho.out.2]⟩
                | exact ⟨trivial, q + 1, by omega, by omega, by go_num, by rw [Ho.out.1], by rw [Ho.out.2]⟩
                | (simp [intOf]; omega)
        · have He := Hend q (by omega)
          have HT : Hid (oneTo m f n q = true → mixB (bSet S g l f n) l (k + 1) = (mixB (bSet S g l f n) l k).set k true) := hidIt (fun h => by rw [Hst.out, HgR.out, ← He.out.1, h]; rfl)
          have HN : Hid (oneTo m f n q = false → mixB (bSet S g l f n) l (k + 1) = mixB (bSet S g l f n) l k) := hidIt (fun h => (Hsame (by rw [HgR.out, ← He.out.1, h]; rfl)).out)
          have hq1 : ¬ (q < m + g ∧ q < S) := by omega
          clear Hend Hst Hsame HgR He
          generalize oneTo m f n q = A at *
          generalize allTo m f n q = C at *
          have hneb : ¬ w.heap.size = gb := by omega
          have hneb1 : ¬ w.heap.size + 1 = gb := by omega
          by_cases hq2 : q < m + g
          · have hq3 : S ≤ q := by omega
            cases A <;> cases C
            all_goals go_wp2
            all_goals go_roundw
            all_goals first
              | exact ⟨k + 1, by omega, by go_num, by rw [HN.out rfl]; exact hown, B4, B8, hF⟩
              | exact ⟨k + 1, by omega, by go_num, by rw [HT.out rfl, flatB_set]; exact owns_put hown k _, B4.other hneb _, B8.other hneb1 _, hF.setCell (.inr (by show w.heap.size ≤ gb; omega)) _⟩
              | (simp [intOf]; omega)
          · have hq3 : m + g ≤ q := by omega
            cases A <;> cases C
            all_goals go_wp2
            all_goals go_roundw
            all_goals first
              | exact ⟨k + 1, by omega, by go_num, by rw [HN.out rfl]; exact hown, B4, B8, hF⟩
              | exact ⟨k + 1, by omega, by go_num, by rw [HT.out rfl, flatB_set]; exact owns_put hown k _, B4.other hneb _, B8.other hneb1 _, hF.setCell (.inr (by show w.heap.size ≤ gb; omega)) _⟩
              | (simp [intOf]; omega)
    · have hke : k = l.length := by omega
      rw [hke, mixB_end HR.out] at hown
      clear hke
      go_wp2
      have hsl := fun (W : World) (h : W.ownsRow w1.heap.size 4 1 (.slice a2 l.length c2) l.length ((bSet S g l f n).flatMap boolC)) => (show SlB W (.slice a2 l.length c2) (bSet S g l f n) from SlF.of_owns (base := w1.heap.size) (e := 4) (size := 1) (by rw [HR.out]; exact h))
      exact bodyPost_ret (v := .tuple #[rb S g (.slice a2 l.length c2), .int .i64 0]) (by simp [results, Try.results41, go_sem, rb, b8]) rfl ⟨_, rfl, hsl _ (owns_setCell (owns_setCell (owns_setCell (owns_setCell hown (by simp; omega) _) (by simp; omega) _) (by simp; omega) _) (by simp; omega) _), okV.of_owns hown,
        (((hF.setCell (.inr (by simp)) _).setCell (.inr (by simp)) _).setCell (.inr (by simp)) _).setCell (.inr (by simp)) _⟩
end Go.Proofs.Ytiifmakhfpllnaa
