/-
  span.Kinds.
-/
import Derived.Test.YtkammkbjkojfmaaSpRep
import Derived.Test.YtkammkbjkojfmaaSpR1
namespace Go.Proofs.Ytkammkbjkojfmaa
open Go.RowKit Go.Maps

/-- 'out = append(out, x...)', x a row of numbers -/
theorem wpList_append_ints {P : Program} (T E : TypeId) (ht : P.underlying T = some (.slice E)) (hinfo : (P.info? E).map (fun i => (i.zero, i.size, i.bytes)) = some (some (.int .i64 0), 1, 8))
    {ops : Array Oper} {rest : List Oper} {o : Oper} {a : Act} {Q : Exit → Act → World → Prop} {w : World} (hgd : o.guard = none) (s x : Operand)
    (ho : o.op = .call { callee := .builtin .append, args := #[s, x], argTypes := #[T, T] }) (base : Nat) (v : Value) (l m : List Int) (hs : a.eval s = v) (hown : w.ownsRow base E 1 v l.length (l.flatMap intC))
    (ax : Option Addr) (cx : Nat) (hx : a.eval x = .slice ax m.length cx) (hm : SlI w (.slice ax m.length cx) m) (hne : m ≠ []) (hl : l.length + m.length ≤ 4294967296) (hbase : base ≤ w.heap.size)
    (h : ∀ v' w', w'.ownsRow base E 1 v' (l ++ m).length ((l ++ m).flatMap intC) → w.grownBy w' v.ownBlock → (v'.ownBlock = v.ownBlock ∨ v'.ownBlock = some w.heap.size) → wpList P ops Q rest (a.put o.dst v') w') : wpList P ops Q (o :: rest) a w := by
  obtain ⟨i0, hi, hz0, hz1, hz2⟩ := info_parts hinfo
  have hlen : ∀ l : List Int, (l.flatMap intC).length = l.length := fun l => by induction l <;> simp_all
  obtain ⟨b, off, hax, hb, hc⟩ := SlF.news hm (fun h => by have := hlen m; rw [h] at this; exact hne (List.eq_nil_of_length_eq_zero this.symm))
  refine wpList_append_own_at w hgd s x T ho base E i0 _ 1 8 ht hi hz0 hz1 hz2 rfl (by decide) v l.length _ hs hown ⟨b, off, none⟩ m.length cx (m.flatMap intC) (by rw [hx, hax]) (by rw [hlen]; omega) hc (flat_one (fun _ => int_one) m) (by unfold maxLen; omega) (by omega) hbase (fun v' w' g1 g2 _ g4 => h v' w' ?_ g2 g4)
  rw [List.length_append, List.flatMap_append]
  exact g1
set_option maxRecDepth 100000 in
set_option maxHeartbeats 1600000 in
theorem sKinds_calls (v : Value) (l : List Op3) (w : World) (hv : SlP w v l) : Calls Try.prog 25 #[v] w fun e w' => ∃ v', e = .returned v' ∧ SlI w' v' (kindsE l) ∧ Fr [] w w' ∧ w'.ownsRow w.heap.size 3 1 v' (kindsE l).length ((kindsE l).flatMap intC) := by
  have keyR := fun w hv => sRight_calls v l w hv
  by_cases hr : right l = true
  · obtain ⟨hR, hle⟩ := right_ok hr
    rw [hr] at keyR
    have Hd : Hid (flatE (l.take l.length) = kindsE l) := hidIt (by rw [List.take_length, kindsE_right hr])
    have Hle : ∀ k, (flatE (l.take k)).length ≤ 65536 := fun k => Nat.le_trans (flat_take_le l k) hle
    have Hst : ∀ k, k < l.length → Hid (1 ≤ (l.getD k z3).2.1 ∧ (l.getD k z3).2.1 ≤ 65536 ∧ flatE (l.take (k + 1)) = flatE (l.take k) ++ List.replicate (l.getD k z3).2.1.toNat (l.getD k z3).2.2) := fun k hk => hidIt (by
      have g1 := hR.2 k hk
      have g2 := flat_take_le l (k + 1)
      rw [flat_step hk, List.length_append, List.length_replicate] at g2
      exact ⟨g1.2, by omega, flat_step hk⟩)
    have H0 : flatE (l.take 0) = [] := by simp [flatE]
    generalize kindsE l = Z at *
    generalize hD : (fun k => flatE (l.take k)) = D at *
    replace Hd : Hid (D l.length = Z) := by rw [← hD]; exact Hd
    replace Hle : ∀ k, (D k).length ≤ 65536 := by rw [← hD]; exact Hle
    replace Hst : ∀ k, k < l.length → Hid (1 ≤ (l.getD k z3).2.1 ∧ (l.getD k z3).2.1 ≤ 65536 ∧ D (k + 1) = D k ++ List.replicate (l.getD k z3).2.1.toNat (l.getD k z3).2.2) := by rw [← hD]; exact Hst
    replace H0 : D 0 = [] := by rw [← hD]; exact H0
    have hll : l.length ≤ 65536 := Nat.le_trans hR.len hle
    clear hD hle hR
    obtain ⟨a, cap, rfl, hlc, hcm, _⟩ := hv.open
    unfold maxLen at hcm
    go_enter Try.func25, Try.ntmps25
    go_wp2_with fail
    refine (keyR w hv).mono ?_
    rintro e w1 ⟨rfl, hf1⟩
    clear keyR
    go_wp2_with fail
    go_loopw [3, 5, 11] (fun o _ i wr => ∃ k : Nat, k ≤ l.length ∧ i = .int .i64 k ∧ wr.ownsRow w.heap.size 3 1 o (D k).length ((D k).flatMap intC) ∧ Fr [] w wr) (fun _ _ i _ => l.length - (intOf i).toNat)
    case atStart => exact ⟨0, Nat.zero_le _, rfl, by rw [H0]; exact World.ownsRow_nil _ _ _ _, hf1⟩
    case round =>
      clear hf1
      obtain ⟨k, hk, rfl, hown, hF⟩ := hrel
      have hob := own_base hown
      have hsz := hF.size
      by_cases hlt : k < l.length
      · obtain ⟨b, off, rfl, hb, d0, d1, d2⟩ := SlP.at (hv.fr0 hF) hlt
        have hs := Hst k hlt
        have hle := Hle k
        generalize l.getD k z3 = x at *
        obtain ⟨p, q, r⟩ := x
        simp only at d0 d1 d2 hs
        obtain ⟨s1, s2, s3⟩ := hs.out
        replace s3 := hidIt s3
        obtain ⟨Q, rfl⟩ := Int.eq_ofNat_of_zero_le (by omega : 0 ≤ q)
        rw [Int.toNat_natCast] at s3
        clear Hst H0 Hd Hle hs
        generalize D k = E at *
        obtain ⟨av, cv, rfl, _, _, _⟩ := Sl.of_owns hown
        go_wp2_with fail
        have hx1 : SlI ((wr.alloc (.cells #[.int .i64 p, .int .i64 Q, .int .i64 r] 38)).alloc (.cells #[.int .i64 r] 3)) (.slice (some ⟨(wr.alloc (.cells #[.int .i64 p, .int .i64 Q, .int .i64 r] 38)).heap.size, 0, none⟩) 1 1) [r] := SlF.one (f := intC) (Blk.new _ [.int .i64 r] 3)
        simp only [World.size_alloc] at hx1
        refine (sRep_calls _ r Q _ hx1 (by omega) (by omega)).mono ?_
        rintro e w4 ⟨v4, rfl, hs4, hf4⟩
        have hF4 := ((hF.alloc _).alloc _).trans0 hf4
        have hown4 := owns_fr ((hown.alloc _).alloc _) hf4 (by simp)
        have hsz4 := hF4.size
        obtain ⟨a4, c4, rfl, _, _, _⟩ := hs4.open
        clear hx1 hf4 hF hown
        go_wp2_with (at_builtin; refine Hid.out ?_)
        refine hidIt ?_
        refine wpList_append_ints 27 3 Try.underlying27 infoInt rfl _ _ rfl w.heap.size (.slice av E.length cv) E (List.replicate Q r) rfl hown4 a4 c4 (by rw [List.length_replicate]; rfl) (by rw [List.length_replicate]; rw [List.length_replicate] at hs4; exact hs4) (fun h => by have := congrArg List.length h; simp at this; omega) (by simp; omega) hsz4 ?_
        intro v' w5 hown5 hgrow hloc
        rw [← s3.out] at hown5
        go_wp2
        go_roundw
        case rel => exact ⟨k + 1, by omega, by go_num, hown5, hF4.grown hgrow (fun x hx => .inr (hob x hx))⟩
        case measure => simp [intOf]; omega
      · have hke : k = l.length := by omega
        have Hz : Hid (D k = Z) := hidIt (by rw [hke, Hd.out])
        clear Hst Hle H0 Hd hke
        go_wp2
        go_ret
        exact ⟨u3, rfl, by rw [← Hz.out]; exact SlF.of_owns hown, hF, by rw [← Hz.out]; exact hown⟩
  · have hr' : right l = false := by simpa using hr
    rw [hr'] at keyR
    rw [kindsE_not hr']
    obtain ⟨a, cap, rfl, hlc, hcm, _⟩ := hv.open
    go_enter Try.func25, Try.ntmps25
    go_wp2_with fail
    refine (keyR w hv).mono ?_
    rintro e w1 ⟨rfl, hf1⟩
    go_wp2
    go_ret
    exact ⟨_, rfl, Sl.nil _, hf1, World.ownsRow_nil _ _ _ _⟩
end Go.Proofs.Ytkammkbjkojfmaa
