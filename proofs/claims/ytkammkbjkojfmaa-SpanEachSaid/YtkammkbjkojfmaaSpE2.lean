/-
  span.Each, Total.
-/
import Derived.Test.YtkammkbjkojfmaaSpE1
namespace Go.Proofs.Ytkammkbjkojfmaa
open Go.RowKit Go.Maps
attribute [local go_sem] Oper.semAt_some

set_option maxRecDepth 100000 in
set_option maxHeartbeats 800000 in
theorem sEach_calls (vl : Value) (kind : Int) (a : Option Addr) (n c : Nat) (hvl : vl = .slice a n c) (w : World) : Calls Try.prog 22 #[vl, .int .i64 kind] w fun e w' => ∃ bl bk, e = .returned (.func (.func 39) #[] #[.pointer (some ⟨bl, 0, none⟩), .pointer (some ⟨bk, 0, none⟩)]) ∧
    Blk w' bl [vl] 22 ∧ Blk w' bk [.int .i64 kind] 3 ∧ Fr [] w w' ∧ w.heap.size ≤ bl ∧ w.heap.size ≤ bk := by
  subst hvl
  go_enter Try.func22, Try.ntmps22
  go_wp2
  go_ret
  exact ⟨_, _, rfl, (Blk.new w [_] _).alloc _, Blk.new' (by simp) [_] _, ((Fr.refl _ _).alloc _).alloc _, Nat.le_refl _, by omega⟩
/-- of how many places -/
def sumL (xs : List Op3) : Int := xs.foldl (fun n x => n + x.2.1) 0
theorem sumL_snoc (xs : List Op3) (x : Op3) : sumL (xs ++ [x]) = sumL xs + x.2.1 := by unfold sumL; rw [List.foldl_append]; rfl
theorem sumL_succ (xs : List Op3) (k : Nat) (hk : k < xs.length) : sumL (xs.take (k + 1)) = sumL (xs.take k) + (xs.getD k z3).2.1 := by
  have hg : xs[k] = xs.getD k z3 := by rw [List.getD_eq_getElem?_getD, List.getElem?_eq_getElem hk]; rfl
  rw [List.take_succ_eq_append_getElem hk, hg, sumL_snoc]
/-- the places of a kind, counted -/
def countK (d : List Int) (k : Int) : Nat := (d.filter fun x => x == k).length
theorem countK_append (d e : List Int) (k : Int) : countK (d ++ e) k = countK d k + countK e k := by simp [countK, List.filter_append]
theorem countK_rep (n : Nat) (r k : Int) : countK (List.replicate n r) k = if r = k then n else 0 := by
  unfold countK
  rw [List.filter_replicate]
  by_cases h : r = k
  · rw [if_pos h, if_pos (by simpa using h), List.length_replicate]
  · rw [if_neg h, if_neg (by simpa using h)]
    rfl
theorem sum_filter {E : List Op3} {d : List Int} (h : RightE E d) (k : Int) : ∀ n, n ≤ E.length → sumL ((E.take n).filter fun x => x.2.2 == k) = countK (flatE (E.take n)) k
  | 0, _ => by simp [sumL, countK, flatE]
  | n + 1, hn => by
    have ih := sum_filter h k n (by omega)
    have hlt : n < E.length := by omega
    have h2 := (h.2 n hlt).2
    have hg : E[n] = E.getD n z3 := by rw [List.getD_eq_getElem?_getD, List.getElem?_eq_getElem hlt]; rfl
    rw [flat_step hlt, countK_append, countK_rep, List.take_succ_eq_append_getElem hlt, hg, List.filter_append]
    by_cases hk : (E.getD n z3).2.2 = k
    · rw [if_pos hk, List.filter_cons, if_pos (beq_iff_eq.2 hk), List.filter_nil, sumL_snoc, ih]
      omega
    · rw [if_neg hk, List.filter_cons, if_neg (by rw [beq_eq_false_iff_ne.2 hk]; decide), List.filter_nil, List.append_nil, ih, Nat.add_zero]
theorem sum_ofKind (l : List Op3) (k : Int) : sumL (ofKind l k) = countK (kindsE l) k := by
  have hR := RightE.of (kindsE l)
  have := sum_filter hR k _ (Nat.le_refl _)
  rw [List.take_length, hR.1] at this
  exact this
theorem take_filter_le (xs : List Op3) (h : ∀ x ∈ xs, 0 ≤ x.2.1) : ∀ k, 0 ≤ sumL (xs.take k) ∧ sumL (xs.take k) ≤ sumL xs := by
  have key : ∀ (ys zs : List Op3), (∀ x ∈ ys, 0 ≤ x.2.1) → (∀ x ∈ zs, 0 ≤ x.2.1) → 0 ≤ sumL ys ∧ sumL ys ≤ sumL (ys ++ zs) := by
    have fol : ∀ (zs : List Op3) (n : Int), (∀ x ∈ zs, 0 ≤ x.2.1) → n ≤ zs.foldl (fun n x => n + x.2.1) n := by
      intro zs
      induction zs with
      | nil => intro n _; exact Int.le_refl _
      | cons z zs ih => intro n hz; exact Int.le_trans (by have := hz z List.mem_cons_self; omega) (ih (n + z.2.1) (fun x hx => hz x (List.mem_cons_of_mem _ hx)))
    intro ys zs hy hz
    refine ⟨fol ys 0 hy, ?_⟩
    unfold sumL
    rw [List.foldl_append]
    exact fol zs _ hz
  intro k
  have := key (xs.take k) (xs.drop k) (fun x hx => h x (List.mem_of_mem_take hx)) (fun x hx => h x (List.mem_of_mem_drop hx))
  rwa [List.take_append_drop] at this
theorem ofKind_pos (l : List Op3) (k : Int) : ∀ x ∈ ofKind l k, 1 ≤ x.2.1 ∧ 0 ≤ x.1 ∧ x.1 + x.2.1 ≤ 65536 := by
  intro x hx
  have hm := (List.mem_filter.1 hx).1
  obtain ⟨i, hi, rfl⟩ := List.getElem_of_mem hm
  have hR := RightE.of (kindsE l)
  have h1 := hR.2 i hi
  have h2 := flat_take_le (ofE (kindsE l)) (i + 1)
  rw [flat_step hi, List.length_append, List.length_replicate, hR.1] at h2
  have h3 := kindsE_le l
  have hg : (ofE (kindsE l))[i] = (ofE (kindsE l)).getD i z3 := by rw [List.getD_eq_getElem?_getD, List.getElem?_eq_getElem hi]; rfl
  rw [hg]
  omega
set_option maxRecDepth 100000 in
set_option maxHeartbeats 2000000 in
theorem sTotal_calls (vl : Value) (l : List Op3) (kind : Int) (w : World) (hv : SlP w vl l) : Calls Try.prog 29 #[vl, .int .i64 kind] w fun e w' => e = .returned (.int .i64 (countK (kindsE l) kind)) ∧ Fr [] w w' := by
  have Hsum : ∀ k, Hid (0 ≤ sumL ((ofKind l kind).take k) ∧ sumL ((ofKind l kind).take k) ≤ 65536) := fun k => hidIt (by
    have h1 := take_filter_le (ofKind l kind) (fun x hx => by have := ofKind_pos l kind x hx; omega) k
    have h2 : countK (kindsE l) kind ≤ 65536 := Nat.le_trans (List.length_filter_le _ _) (kindsE_le l)
    rw [sum_ofKind] at h1
    omega)
  have Hst : ∀ k, k < (ofKind l kind).length → Hid (sumL ((ofKind l kind).take (k + 1)) = sumL ((ofKind l kind).take k) + ((ofKind l kind).getD k z3).2.1) := fun k hk => hidIt (sumL_succ _ k hk)
  have Hd : Hid (sumL ((ofKind l kind).take (ofKind l kind).length) = countK (kindsE l) kind) := hidIt (by rw [List.take_length, sum_ofKind])
  obtain ⟨a, cap, rfl, hlc, hcm, _⟩ := hv.open
  refine calls_marks Try.func29 rfl ?_
  simp only [Try.ntmps29, List.size_toArray, List.length_cons, List.length_nil, Nat.reduceAdd, Nat.reduceSub, Array.replicate_succ, Array.replicate_zero, List.push_toArray, List.append_toArray, List.nil_append, List.cons_append]
  go_wp2_with fail
  have B5 := Blk.new w [.int .i64 0] 3
  have hF1 := (Fr.refl [] w).alloc (.cells #[.int .i64 0] 3)
  refine (sEach_calls _ kind a l.length cap rfl _).mono ?_
  rintro e w2 ⟨bl, bk, rfl, hbl, hbk, hf2, hb1, hb2⟩
  simp only [World.size_alloc] at hb1 hb2
  have B5b := B5.fr0 hf2
  have hF2 := hF1.trans0 hf2
  have hsz := hF2.size
  have hlb := B5b.lt
  have hlk := hbk.lt
  have hseq := each_seq bl bk _ l kind w2 hbl hbk (SlF.fr0 hv hF2)
  generalize ofKind l kind = xs at *
  clear B5 hF1 hf2 hbl hbk
  go_wp2_with fail
  refine wp_rangeFunc_seq rfl (enters_of Try.func39 (by kernel_rfl) rfl) hseq (Fr.refl _ _) (fun k f A => f = [w.heap.size] ∧ Blk A w.heap.size [.int .i64 (sumL (xs.take k))] 3 ∧ Fr [] w A) (fun _ _ _ => False) [w.heap.size] ?st (fun _ _ _ _ _ h _ _ => h) (by simp) (by simp; omega) ⟨rfl, by simpa [sumL] using B5b, hF2⟩ ?round ?done (fun _ _ _ _ _ _ h _ => h.elim)
  case st =>
    rintro k f A B M' ⟨rfl, hb, hf⟩ hF hM
    exact ⟨rfl, stab_blk hb hF hM hlb (by simp), stab_fr hf hF hM (by omega) (by simp)⟩
  case round =>
    rintro lp k f A args h1 h2 h3 h4 hk ⟨rfl, hb, hf⟩ rfl
    refine ⟨rfl, ?_⟩
    have Hn := Hst k hk
    have Hs1 := Hsum k
    have Hs2 := Hsum (k + 1)
    rw [Hn.out] at Hs2
    clear Hst Hsum Hd hseq
    generalize sumL (xs.take k) = T at *
    generalize xs.getD k z3 = x at *
    obtain ⟨p, q, r⟩ := x
    simp only at Hn Hs2 ⊢
    gi_wp2
    refine ⟨⟨trivial, hb, hf⟩, Fr.refl _ _, ?_⟩
    rintro A2 ⟨_, hb2, hf2⟩ hF2 hsz2
    have c5 := hb2.cell
    have f5 := hb2.frozen
    have l5 := hb2.lt
    have hT := Hs1.out
    have hT2 := Hs2.out
    have hw1 : IntKind.i64.wrap (T + q) = T + q := IntWalk.i64_in _ (by omega)
    gi_wp2
    exact ⟨_, ⟨rfl, by rw [Hn.out]; exact hb2.setCell 0 _, hf2.setCell (.inr (Nat.le_refl _)) _⟩, Fr.set1 _ _ _, fun x hx => by have := List.mem_singleton.1 hx; subst this; exact ⟨by simp; omega, .inl hx⟩⟩
  case done =>
    rintro D f W h1 h2 ⟨rfl, hb, hf⟩ hK
    have c5 := hb.cell
    rw [Hd.out] at c5
    go_wp2
    refine leave_mark rfl hK (fun W' _ => results_tmp rfl _ _ _) fun W' hF => ⟨rfl, hf.trans1 hF (by omega)⟩
end Go.Proofs.Ytkammkbjkojfmaa
