/-
  An image that a law has made: what calls leave of it; law12.alive.
-/
import Derived.Test.YtilhbjjjmdnjmaaGreatM36
import Derived.Test.YtilhbjjjmdnjmaaGreatM35
import Derived.Test.YtilhbjjjmdnjmaaGreatM17
import Derived.BigQuiet
namespace Go.Proofs.YtilhbjjjmdnjmaaGreat
open Go.RowKit Go.Maps
attribute [local go_sem] mapAt_alloc mapAt_setCell mapAt_drew mapAt_drewN cells_str store_str len_str

/-- an image that was made behind w0; nothing of w0 has turned -/
structure StI (w0 w : World) (ib : Nat) (p : Pl) (M : Img) : Prop where
  img : ImgW w ib p M
  new : ∀ k, (p.r k).isSome = true → w0.heap.size ≤ k
  fr : Fr [] w0 w
section
variable {w0 w w' : World} {ib : Nat} {p p' : Pl} {M M' : Img}
theorem StI.keep (h : StI w0 w ib p M) (hf : Fr [] w w') : StI w0 w' ib p M := ⟨h.img.fr0 hf, h.new, h.fr.trans0 hf⟩
theorem StI.step (h : StI w0 w ib p M) (hI : ImgW w' ib p' M') (hs : Step w p w' p') : StI w0 w' ib p' M' := by
  have hz := h.fr.size
  refine ⟨hI, fun k hk => ?_, h.fr.trans hs.fr fun x hx hl => ?_⟩
  · rcases hs.new k hk with h1 | h1
    · exact h.new k h1
    · omega
  · have := h.new x (mem_own.1 hx).2
    omega
theorem StI.far (h : StI w0 w ib p M) {v : Value} (hv : ∀ k, v.ownBlock = some k → k < w0.heap.size) : far p v := fun k hk => by
  cases hr : p.r k with
  | none => rfl
  | some x =>
    have := h.new k (by rw [hr]; rfl)
    have := hv k hk
    omega
theorem StI.res (h : StI w0 w ib p M) {r : Int × Img} {e : Ending} (hp : resPost w ib p r e w') : ∃ p', e = .returned (.int .i64 r.1) ∧ StI w0 w' ib p' r.2 := by
  obtain ⟨p', he, hI, hs⟩ := hp
  exact ⟨p', he, h.step hI hs⟩
theorem StI.doe (h : StI w0 w ib p M) {o : OpI} {bel : List By} {e : Ending} (hp : doePost w ib p M o bel e w') : ∃ p', e = .returned (.tuple #[strL (opR M o), .int .i64 (opE M o bel).1]) ∧ StI w0 w' ib p' (opE M o bel).2 := by
  obtain ⟨p', he, hI, hs⟩ := hp
  exact ⟨p', he, h.step hI hs⟩
theorem iWriteS_calls (x : Int) (vb : Value) (b : By) (h : StI w0 w ib p M) (hok : OkI M) (hvb : SlY w vb b) (hvr : 0 < b.length → Go.Proofs.YtilhbjjjmdnjmaaGreat.far p vb) :
    Calls Tryz.prog 16 #[.pointer (some ⟨ib, 0, none⟩), .int .i64 x, vb, .nilFunc] w fun e w' => ∃ p', e = .returned (.int .i64 (writeE M x b []).1) ∧ StI w0 w' ib p' (writeE M x b []).2 :=
  (iWrite_calls x vb b .nilFunc [] w h.img hok hvb hvr (BelW.nil _ _)).mono fun _ _ hp => h.res hp
end
theorem new_St {B n r : Nat} {w w' : World} {e : Ending} (hp : newIPost w B n r e w') : ∃ ib p, e = .returned (.tuple #[.pointer (some ⟨ib, 0, none⟩), .int .i64 0]) ∧ StI w w' ib p (newI B n r) := by
  obtain ⟨ib, p, he, hI, hn, hf⟩ := hp
  exact ⟨ib, p, he, hI, hn, hf⟩
/-! ### alive -/
def nmA : By := [97]
def aM0 : Img := newI 1 4 2
def aM1 : Img := (writeE aM0 1 (secB 97) []).2
def aM2 : Img := (snapE aM1 nmA).2
def aM3 : Img := (writeE aM2 1 (secB 98) []).2
def aM4 : Img := (applyE aM3 nmA).2
theorem aO0 : OkI aM0 := newI_ok (by decide) (by decide) (by decide)
theorem aO1 : OkI aM1 := (write_K aO0 _ _ _ (fun _ => False)).ok
theorem aO2 : OkI aM2 := (snap_K aO1 _ (fun _ => False)).ok
theorem aO3 : OkI aM3 := (write_K aO2 _ _ _ (fun _ => False)).ok
theorem aO4 : OkI aM4 := (apply_K aO3 _ (fun _ => False)).ok
theorem aE1 : (writeE aM0 1 (secB 97) []).1 = 0 := by kernel_rfl
theorem aE2 : (snapE aM1 nmA).1 = 0 := by kernel_rfl
theorem aE3 : (writeE aM2 1 (secB 98) []).1 = 0 := by kernel_rfl
theorem aF3 : freeN aM3.n = 0 := by kernel_rfl
theorem aE4 : writeE aM3 7 (secB 99) [] = (120, aM3) := by kernel_rfl
theorem aE5 : (applyE aM3 nmA).1 = 0 := by kernel_rfl
theorem aI4 : insideI aM4 1 1 = 0 := by kernel_rfl
theorem aR4 : readI aM4 1 1 = secB 97 := by kernel_rfl
theorem aF4 : freeN aM4.n = 1 := by kernel_rfl
set_option maxRecDepth 100000 in
set_option maxHeartbeats 1600000 in
theorem iAlive_calls (w : World) : Calls Tryz.prog 6 #[] w fun e w' => e = .returned (.bool true) ∧ Fr [] w w' := by
  have hA : Value.string ⟨#[97]⟩ = strL nmA := rfl
  obtain ⟨sA, hsA⟩ : ∃ s, s = strL nmA := ⟨_, rfl⟩
  rw [← hsA] at hA
  have HA := hidIt hsA
  clear hsA
  go_enter Tryz.func6, Tryz.ntmps6
  go_wp2_with fail
  refine (iNew_yes 1 4 2 w (by unfold okSeat; decide)).mono ?_
  intro e w1 hp
  obtain ⟨ib, p, rfl, hst⟩ := new_St hp
  clear hp
  have hst : StI w w1 ib p aM0 := hst
  go_wp2_with fail
  refine (Sector_calls 97 w1).mono ?_
  rintro e w2 ⟨v2, rfl, hv2, ho2, hf2⟩
  have hr2 : far p v2 := fun k hk => hst.img.new (ho2 k hk)
  replace hst := hst.keep hf2
  go_wp2_with fail
  refine (iWriteS_calls 1 v2 _ hst aO0 hv2 (fun _ => hr2)).mono ?_
  rintro e w3 ⟨p3, rfl, hst3⟩
  rw [aE1]
  have hst3 : StI w w3 ib p3 aM1 := hst3
  clear hst hf2 hv2 ho2 hr2
  go_wp2_with fail
  rw [HA.out]
  refine (iSnap_calls nmA w3 hst3.img aO1).mono ?_
  intro e w4 hp
  obtain ⟨p4, rfl, hst4⟩ := hst3.res hp
  rw [aE2]
  have hst4 : StI w w4 ib p4 aM2 := hst4
  clear hst3 hp
  go_wp2_with fail
  refine (Sector_calls 98 w4).mono ?_
  rintro e w5 ⟨v5, rfl, hv5, ho5, hf5⟩
  have hr5 : far p4 v5 := fun k hk => hst4.img.new (ho5 k hk)
  replace hst4 := hst4.keep hf5
  go_wp2_with fail
  refine (iWriteS_calls 1 v5 _ hst4 aO2 hv5 (fun _ => hr5)).mono ?_
  rintro e w6 ⟨p6, rfl, hst6⟩
  rw [aE3]
  have hst6 : StI w w6 ib p6 aM3 := hst6
  clear hst4 hf5 hv5 ho5 hr5
  go_wp2_with fail
  refine (iFree_calls w6 hst6.img).mono ?_
  rintro e w7 ⟨rfl, rfl⟩
  rw [aF3]
  go_wp2_with fail
  refine (Sector_calls 99 w6).mono ?_
  rintro e w8 ⟨v8, rfl, hv8, ho8, hf8⟩
  have hr8 : far p6 v8 := fun k hk => hst6.img.new (ho8 k hk)
  replace hst6 := hst6.keep hf8
  go_wp2_with fail
  refine (iWriteS_calls 7 v8 _ hst6 aO3 hv8 (fun _ => hr8)).mono ?_
  rw [aE4]
  rintro e w9 ⟨p9, rfl, hst9⟩
  simp only at hst9 ⊢
  clear hst6 hf8 hv8 ho8 hr8
  go_wp2_with fail
  rw [HA.out]
  refine (iApply_calls nmA w9 hst9.img aO3).mono ?_
  intro e w10 hp
  obtain ⟨p10, rfl, hst10⟩ := hst9.res hp
  rw [aE5]
  have hst10 : StI w w10 ib p10 aM4 := hst10
  clear hst9 hp
  go_wp2_with fail
  refine (iRead_calls 1 1 w10 hst10.img aO4).mono ?_
  rintro e w11 ⟨v, rfl, hvv, _, _, hf11⟩
  rw [aI4, if_pos rfl, show ((1 : Int)).toNat = 1 from rfl, aR4] at hvv
  rw [aI4]
  replace hst10 := hst10.keep hf11
  obtain ⟨va, vc, rfl, _⟩ := hvv.open
  obtain ⟨b, off, rfl, hb, cc⟩ := SlY.at hvv (i := 0) (by decide)
  have h16 : (secB 97).length = 16 := rfl
  rw [h16] at *
  have c0 : w11.cell? ⟨b, off, none⟩ = some (.int .u8 97) := cc
  clear hvv cc
  go_wp2_with fail
  refine (iFree_calls w11 hst10.img).mono ?_
  rintro e w12 ⟨rfl, rfl⟩
  rw [aF4]
  go_wp2
  go_ret
  exact ⟨rfl, hst10.fr⟩
end Go.Proofs.YtilhbjjjmdnjmaaGreat

namespace Go.Proofs.YtilhbjjjmdnjmaaGreat
open Go.RowKit Go.Maps

structure LawI (w1 w : World) (ib : Nat) (q : Pl) (R : Img) (B r : Nat) : Prop where
  st : StI w1 w ib q R
  ok : OkI R
  hB : R.B = B
  hr : R.n.length = r
section
variable {w1 w w' : World} {ib : Nat} {q : Pl} {R : Img} {B n r : Nat}
theorem LawI.made (hok : okSeat (B : Int) (n : Int) (r : Int)) (h : StI w1 w ib q (newI B n r)) : LawI w1 w ib q (newI B n r) B r := by
  unfold okSeat at hok
  exact ⟨h, newI_ok (by omega) (by omega) (by omega), rfl, List.length_replicate⟩
theorem LawI.keep (h : LawI w1 w ib q R B r) (hf : Fr [] w w') : LawI w1 w' ib q R B r := ⟨h.st.keep hf, h.ok, h.hB, h.hr⟩
/-- what a call leaves of it -/
def lawPost (w1 w : World) (ib : Nat) (q : Pl) (R : Img) (B r : Nat) (o : OpI) (e : Ending) (w' : World) : Prop := ∃ q', e = .returned (.tuple #[strL (opR R o), .int .i64 (opE R o []).1]) ∧ LawI w1 w' ib q' (opE R o []).2 B r ∧ Step w q w' q'
theorem LawI.does (h : LawI w1 w ib q R B r) {n0 : Nat} (hz : n0 ≤ w1.heap.size) (o : OpI) (vb : Value) (hb : BytW w n0 vb o.b) : Calls Tryz.prog 11 #[.pointer (some ⟨ib, 0, none⟩), opiV o vb, .slice none 0 0] w (lawPost w1 w ib q R B r o) :=
  (iDoes_calls n0 o vb (.slice none 0 0) [] w h.st.img h.ok (fun k hk => Nat.le_trans hz (h.st.new k hk)) hb (Sl.nil _) (fun _ hs => by cases hs) (fun hp => by simp at hp)).mono fun e w' hp => by
    obtain ⟨q', he, hI, hs⟩ := hp
    exact ⟨q', he, ⟨h.st.step hI hs, op_ok h.ok o [], (op_B h.ok o []).trans h.hB, (op_n h.ok o []).trans h.hr⟩, hs⟩
theorem LawI.res (h : LawI w1 w ib q R B r) {x : Int × Img} {e : Ending} {P : By → Prop} (hp : resPost w ib q x e w') (hK : OpK R x.2 P) : ∃ q', e = .returned (.int .i64 x.1) ∧ LawI w1 w' ib q' x.2 B r ∧ Step w q w' q' := by
  obtain ⟨q', he, hI, hs⟩ := hp
  exact ⟨q', he, ⟨h.st.step hI hs, hK.ok, hK.B.trans h.hB, hK.n.trans h.hr⟩, hs⟩
/-- bytes that lie apart from the image -/
structure Apart (w : World) (q : Pl) (v : Value) (b : By) : Prop where
  sl : SlY w v b
  far : 0 < b.length → Go.Proofs.YtilhbjjjmdnjmaaGreat.far q v
theorem Apart.step {v : Value} {b : By} {q' : Pl} (h : Apart w q v b) (hs : Step w q w' q') : Apart w' q' v b := by
  by_cases hb : 0 < b.length
  · obtain ⟨h1, h2⟩ := far.step h.sl hb (h.far hb) hs
    exact ⟨h1, fun _ => h2⟩
  · have : b = [] := List.eq_nil_of_length_eq_zero (by omega)
    subst this
    exact ⟨slY_fr h.sl hs.fr (fun hp => absurd hp (by simp)), fun hp => absurd hp (by simp)⟩
theorem Apart.keep {v : Value} {b : By} (h : Apart w q v b) (hf : Fr [] w w') : Apart w' q v b := h.step (Step.fr0 hf)
theorem LawI.apart (h : LawI w1 w ib q R B r) {v : Value} {b : By} (hv : SlY w' v b) (ho : ∀ k, v.ownBlock = some k → w.heap.size ≤ k) : Apart w' q v b := ⟨hv, fun _ k hk => h.st.img.new (ho k hk)⟩
/-- all of it, read -/
def allPost (w : World) (R : Img) (e : Ending) (w' : World) : Prop := ∃ v, e = .returned (.tuple #[v, .int .i64 0]) ∧ SlY w' v (readI R 0 (R.t.length * 2 ^ R.B)) ∧ (∀ k, v.ownBlock = some k → w.heap.size ≤ k) ∧ Fr [] w w'
theorem LawI.readN (h : LawI w1 w ib q R B r) (A : Nat) (hA : A ≤ R.t.length * 2 ^ R.B) : Calls Tryz.prog 27 #[.pointer (some ⟨ib, 0, none⟩), .int .i64 0, .int .i64 (A : Int)] w fun e w' => ∃ v, e = .returned (.tuple #[v, .int .i64 0]) ∧ SlY w' v (readI R 0 A) ∧ (∀ k, v.ownBlock = some k → w.heap.size ≤ k) ∧ Fr [] w w' := by
  have hi : insideI R 0 (A : Int) = 0 := inside_nat (a := 0) (n := A) (by omega)
  refine (iRead_calls 0 (A : Int) w h.st.img h.ok).mono ?_
  rintro e w2 ⟨v, rfl, hv, _, ho, hf⟩
  rw [hi] at hv ⊢
  rw [if_pos rfl] at hv
  exact ⟨v, rfl, hv, ho, hf⟩
theorem LawI.readA (h : LawI w1 w ib q R B r) {A : Nat} (hA : A = R.t.length * 2 ^ B) : Calls Tryz.prog 27 #[.pointer (some ⟨ib, 0, none⟩), .int .i64 0, .int .i64 (A : Int)] w (allPost w R) := by
  have hA' : A = R.t.length * 2 ^ R.B := by rw [hA, h.hB]
  refine (h.readN A (by omega)).mono ?_
  rintro e w2 ⟨v, rfl, hv, ho, hf⟩
  rw [hA'] at hv
  exact ⟨v, rfl, hv, ho, hf⟩
/-- how many sectors there are -/
theorem LawI.all (h : LawI w1 w ib q R B r) : ∃ A : Nat, Hid (A = R.t.length * 2 ^ B) ∧ A ≤ 2048 ∧ Hid (wrap64 ((R.t.length : Int) * 2 ^ B) = (A : Int)) := by
  have hb : R.t.length * 2 ^ B ≤ 2048 := by
    have := all_le h.ok.toOkJ
    rw [h.hB] at this
    exact this
  have e : ((R.t.length : Int) * 2 ^ B) = ((R.t.length * 2 ^ B : Nat) : Int) := by push_cast; rfl
  refine ⟨_, hidIt rfl, hb, hidIt ?_⟩
  rw [e, IntWalk.wrap64_in _ (by omega)]
theorem LawI.allD (h : LawI w1 w ib q R B r) : ∃ A : Nat, Hid (A = R.t.length * 2 ^ B) ∧ A ≤ 2048 ∧ Hid (IntKind.i64.wrap ((R.t.length : Int) * 2 ^ B) = (A : Int)) := by
  have hb : R.t.length * 2 ^ B ≤ 2048 := by
    have := all_le h.ok.toOkJ
    rw [h.hB] at this
    exact this
  have e : ((R.t.length : Int) * 2 ^ B) = ((R.t.length * 2 ^ B : Nat) : Int) := by push_cast; rfl
  refine ⟨_, hidIt rfl, hb, hidIt ?_⟩
  rw [e, IntWalk.i64_in _ (by omega)]
end
section
variable {w : World} {ib : Nat} {q : Pl} {R : Img} {B r : Nat}
/-- a row that lies apart from the image -/
structure ApartF {α : Type} (f : α → List Value) (w : World) (q : Pl) (v : Value) (l : List α) : Prop where
  sl : SlF f w v l
  far : 0 < l.length → ∀ k, v.ownBlock = some k → q.r k = none ∧ k < w.heap.size
theorem ApartF.step {α : Type} {f : α → List Value} {w w' : World} {q q' : Pl} {v : Value} {l : List α} (h : ApartF f w q v l) (hs : Step w q w' q') : ApartF f w' q' v l := by
  refine ⟨SlF.frE h.sl hs.fr fun hp k hk hm => ?_, fun hp k hk => ?_⟩
  · have := (mem_own.1 hm).2
    rw [(h.far hp k hk).1] at this
    cases this
  · obtain ⟨h1, h2⟩ := h.far hp k hk
    refine ⟨?_, Nat.lt_of_lt_of_le h2 hs.fr.size⟩
    cases hr : q'.r k with
    | none => rfl
    | some x =>
      rcases hs.new k (by rw [hr]; rfl) with h3 | h3
      · rw [h1] at h3; cases h3
      · omega
/-- the law's state, behind a world that holds nothing -/
theorem LawI.bare (h : ImgW w ib q R) (hok : OkI R) (hB : R.B = B) (hr : R.n.length = r) : LawI { w with heap := #[] } w ib q R B r :=
  ⟨⟨h, fun _ _ => Nat.zero_le _, ⟨rfl, rfl, rfl, Nat.zero_le _, fun k hk => absurd hk (Nat.not_lt_zero k)⟩⟩, hok, hB, hr⟩
end
/-- one call alone, as a row -/
theorem OpsW.one {w : World} {b n0 : Nat} {t : TypeId} {o : OpI} {vb : Value} (h : Blk w b (opiC (o, vb)) t) (hv : BytW w n0 vb o.b) (hn : n0 ≤ b) : OpsW w (b + 1) (.slice (some ⟨b, 0, none⟩) 1 1) [o] := by
  refine ⟨[(o, vb)], rfl, SlF.one (f := opiC) h, fun _ k hk => ?_, fun r hr => ?_⟩
  · have : b = k := by simpa [Value.ownBlock] using hk
    omega
  · obtain rfl := List.mem_singleton.1 hr
    exact ⟨hv.sl, hv.okv, fun hp k hk => by have := hv.old hp k hk; omega⟩
theorem slN_at {w : World} {a : Option Addr} {n cap : Nat} {l : List Nat} (h : SlF natC w (.slice a n cap) l) {i : Nat} (hi : i < l.length) : ∃ b off, a = some ⟨b, off, none⟩ ∧ b < w.heap.size ∧ w.cell? ⟨b, off + i, none⟩ = some (.int .i64 (l.getD i 0 : Nat)) := by
  obtain ⟨a', cap', hv, _, _, hc⟩ := SlF.open h
  cases hv
  obtain ⟨b, off, rfl, hb, hc⟩ := hc 1 (fun _ => rfl) (by omega) i _ (getD_some 0 hi)
  have h0 := hc 0 _ rfl
  rw [Nat.mul_one, Nat.add_zero] at h0
  exact ⟨b, off, rfl, hb, h0⟩
set_option maxRecDepth 100000 in
set_option maxHeartbeats 800000 in
theorem SameN_calls (v u : Value) (l : List Nat) (w : World) (hv : SlF natC w v l) (hu : SlF natC w u l) : Calls Tryz.prog 42 #[v, u] w fun e w' => e = .returned (.bool true) ∧ Fr [] w w' := by
  obtain ⟨a, cap, rfl, hlc, hcm, _⟩ := SlF.open hv
  obtain ⟨a', cap', rfl, _, _, _⟩ := SlF.open hu
  unfold maxLen at hcm
  go_enter Tryz.func42, Tryz.ntmps42
  go_wp2
  go_loopw [5] (fun i wr => ∃ k : Nat, k ≤ l.length ∧ i = .int .i64 k ∧ Fr [] w wr) (fun i _ => l.length - (intOf i).toNat)
  case atStart => exact ⟨0, Nat.zero_le _, rfl, Fr.refl _ _⟩
  case round =>
    obtain ⟨k, hk, rfl, hF⟩ := hrel
    by_cases hlt : k < l.length
    · obtain ⟨b, off, rfl, hb, c0⟩ := slN_at (SlF.fr0 hv hF) hlt
      obtain ⟨b', off', rfl, hb', d0⟩ := slN_at (SlF.fr0 hu hF) hlt
      generalize l.getD k 0 = s at *
      have hlt' : (k : Int) < (l.length : Int) := by omega
      have hk0 : (0 : Int) ≤ k := by omega
      go_wp2_with fail
      go_quiet (fail)
      go_wp2
      exact ⟨⟨k + 1, by omega, by go_num, hF.drewN _⟩, by simp [intOf]; omega⟩
    · go_wp2
      go_ret
      exact ⟨rfl, hF⟩
theorem cutFromY (a : Option Addr) (n cap l : Nat) (w : World) (h : l ≤ n) :
    (Instr.sliceAt 40 (.slice a n cap) (some (.int .i64 (l : Int))) none none).run Tryz.prog w = .ok (.slice (slAddr a cap l 1) (n - l) (cap - l)) w := cut_from _ 5 1 Tryz.underlying40 (by kernel_rfl) a n cap l h
theorem cutToY (a : Option Addr) (n cap l : Nat) (w : World) (h : l ≤ cap) :
    (Instr.sliceAt 40 (.slice a n cap) none (some (.int .i64 (l : Int))) none).run Tryz.prog w = .ok (.slice a l cap) w := cut_to _ 5 1 Tryz.underlying40 (by kernel_rfl) a n cap l h
theorem cutMidY (a : Option Addr) (n cap l h : Nat) (w : World) (h1 : l ≤ h) (h2 : h ≤ cap) :
    (Instr.sliceAt 40 (.slice a n cap) (some (.int .i64 (l : Int))) (some (.int .i64 (h : Int))) none).run Tryz.prog w = .ok (.slice (slAddr a cap l 1) (h - l) (cap - l)) w := cut_lh _ 5 1 Tryz.underlying40 (by kernel_rfl) a n cap l h h1 h2
theorem conv_to {X : World} {a : Option Addr} {n cap m : Nat} {l : By} (h : SlY X (.slice a n cap) l) (hm : m ≤ n) : (convert 40 9 (.slice a m cap)).run Tryz.prog X = .ok (strL (l.take m)) X := conv_str (SlF.to 1 (fun _ => rfl) h hm)
theorem conv_from {X : World} {a : Option Addr} {n cap m : Nat} {l : By} (h : SlY X (.slice a n cap) l) (hm : m ≤ n) : (convert 40 9 (.slice (slAddr a cap m 1) (n - m) (cap - m))).run Tryz.prog X = .ok (strL (l.drop m)) X := conv_str (SlF.from 1 (fun _ => rfl) h hm)
theorem conv_mid {X : World} {a : Option Addr} {n cap m j : Nat} {l : By} (h : SlY X (.slice a n cap) l) (hj : j ≤ n) (hm : m ≤ j) : (convert 40 9 (.slice (slAddr a cap m 1) (j - m) (cap - m))).run Tryz.prog X = .ok (strL ((l.take j).drop m)) X := conv_str (SlF.mid 1 (fun _ => rfl) h hj hm)
end Go.Proofs.YtilhbjjjmdnjmaaGreat
