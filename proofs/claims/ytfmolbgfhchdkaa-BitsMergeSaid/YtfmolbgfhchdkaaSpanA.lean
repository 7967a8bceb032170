/-
  Package span: end, add (one place), Of.
-/
import Derived.Test.YtfmolbgfhchdkaaBools
import Derived.Test.YtfmolbgfhchdkaaProg
import Derived.Deep.QuietTactic
import Derived.BigQuiet
namespace Go.Proofs.Ytfmolbgfhchdkaa
open Go.RowKit Go.Maps

theorem infoExt : (Try.prog.info? 45).map (fun i => (i.zero, i.size, i.bytes)) = some (some (.agg #[.int .i64 0, .int .i64 0, .int .i64 0]), 3, 24) := by kernel_rfl
theorem ext_one {o : Op3} : ∀ u ∈ op3C o, u.oneCell' = true := by
  intro u hu
  simp at hu
  rcases hu with rfl | rfl | rfl <;> rfl
/-- the last extent; where a row ends -/
def lastE (E : List Op3) : Op3 := E.getD (E.length - 1) z3
def endE (E : List Op3) : Int := if E.length = 0 then 0 else (lastE E).1 + (lastE E).2.1
def addE (E : List Op3) (k : Int) : List Op3 := if E.length ≠ 0 ∧ (lastE E).2.2 = k then E.set (E.length - 1) ((lastE E).1, (lastE E).2.1 + 1, (lastE E).2.2) else E ++ [(endE E, 1, k)]
def ofE (ks : List Int) : List Op3 := ks.foldl addE []
/-- numbers of no size -/
def smallE (E : List Op3) : Prop := ∀ e ∈ E, (0 ≤ e.1 ∧ e.1 ≤ 1000000) ∧ (0 ≤ e.2.1 ∧ e.2.1 ≤ 1000000)
theorem smallE.last {E : List Op3} (h : smallE E) (h0 : E.length ≠ 0) : (0 ≤ (lastE E).1 ∧ (lastE E).1 ≤ 1000000) ∧ (0 ≤ (lastE E).2.1 ∧ (lastE E).2.1 ≤ 1000000) :=
  h _ (List.mem_of_getElem? (getD_some z3 (by omega : E.length - 1 < E.length)))
set_option maxRecDepth 100000 in
set_option maxHeartbeats 800000 in
theorem send_calls (v : Value) (E : List Op3) (w : World) (hv : SlP w v E) (hs : smallE E) : Calls Try.prog 67 #[v] w fun e w' => e = .returned (.int .i64 (endE E)) ∧ Fr [] w w' := by
  obtain ⟨a, cap, rfl, hlc, hcm, _⟩ := hv.open
  unfold maxLen at hcm
  by_cases h0 : E.length = 0
  · have he : Hid (endE E = 0) := hidIt (by unfold endE; rw [if_pos h0])
    go_enter Try.func67, Try.ntmps67
    go_wp2
    go_ret
    exact ⟨ret_int he.out.symm, Fr.refl _ _⟩
  · have he : Hid (endE E = (lastE E).1 + (lastE E).2.1) := hidIt (by unfold endE; rw [if_neg h0])
    obtain ⟨b, off, rfl, hb, c0, c1, c2⟩ := SlP.at hv (i := E.length - 1) (by omega)
    have hl := hs.last h0
    unfold lastE at he hl
    generalize E.getD (E.length - 1) z3 = x at *
    obtain ⟨p, q, r⟩ := x
    simp only at c0 c1 c2 he hl
    have e1 : (E.length : Int) - 1 = ((E.length - 1 : Nat) : Int) := by omega
    have hlt : E.length - 1 < E.length := by omega
    have hw1 : IntKind.i64.wrap (((E.length - 1 : Nat) : Int)) = ((E.length - 1 : Nat) : Int) := IntWalk.i64_in _ (by omega)
    go_enter Try.func67, Try.ntmps67
    go_wp2_with fail
    go_quiet (fail)
    go_wp2
    go_ret
    exact ⟨ret_int he.out.symm, (Fr.refl _ _).drewN _⟩
theorem flatE_length (l : List Op3) : (l.flatMap op3C).length = l.length * 3 := by
  induction l with
  | nil => rfl
  | cons s g ih => simp [ih]; omega
theorem flatE_set1 (l : List Op3) (i : Nat) (hi : i < l.length) (a b c y : Int) (h : l[i]? = some (a, b, c)) : (l.set i (a, y, c)).flatMap op3C = (l.flatMap op3C).set (i * 3 + 1) (.int .i64 y) := by
  apply List.ext_getElem?
  intro k
  obtain ⟨q, j, hj, rfl⟩ : ∃ q j, j < 3 ∧ k = q * 3 + j := ⟨k / 3, k % 3, Nat.mod_lt _ (by omega), by omega⟩
  rw [flat_at op3C 3 (fun _ => rfl) _ q j hj, List.getElem?_set, List.getElem?_set, flatE_length, flat_at op3C 3 (fun _ => rfl) _ q j hj]
  by_cases hq : i = q
  · subst hq
    rw [if_pos rfl, if_pos hi, h]
    match j, hj with
    | 0, _ => rw [if_neg (by omega)]; rfl
    | 1, _ => rw [if_pos rfl, if_pos (by omega)]; rfl
    | 2, _ => rw [if_neg (by omega)]; rfl
  · rw [if_neg hq, if_neg (by omega)]
set_option maxRecDepth 100000 in
set_option maxHeartbeats 1600000 in
theorem add_calls (base : Nat) (v : Value) (E : List Op3) (k : Int) (w : World) (hown : w.ownsRow base 45 3 v E.length (E.flatMap op3C)) (hs : smallE E) (hn : E.length ≤ 1000000) (hb : base ≤ w.heap.size) :
    Calls Try.prog 57 #[v, .int .i64 1, .int .i64 k] w fun e w' => ∃ v', e = .returned v' ∧ w'.ownsRow base 45 3 v' (addE E k).length ((addE E k).flatMap op3C) ∧ Fr v.ownBlock.toList w w' := by
  by_cases h0 : E.length = 0
  · have hE : E = [] := List.eq_nil_of_length_eq_zero h0
    subst hE
    clear h0 hn
    have hsl : SlP w v [] := SlF.of_owns hown
    obtain ⟨a, cap, rfl, _, _, _⟩ := Sl.of_owns hown
    have ha : Hid (addE [] k = [(0, 1, k)]) := hidIt (by unfold addE endE; simp)
    have key := send_calls _ [] w hsl hs
    have he : endE [] = 0 := rfl
    rw [he] at key
    simp only [List.length_nil, List.flatMap_nil] at hown key ⊢
    go_enter Try.func57, Try.ntmps57
    go_wp2_with fail
    refine key.mono ?_
    rintro e w1 ⟨rfl, hf⟩
    have hown1 := owns_fr hown hf (by simp)
    have hsz := hf.size
    have hob := own_base hown
    clear key hsl hs
    go_wp2_with (at_builtin; refine Hid.out ?_)
    refine hidIt ?_
    refine wpList_append1 42 45 (.agg #[.int .i64 0, .int .i64 0, .int .i64 0]) 3 24 Try.underlying42 infoExt rfl (by decide) (by decide) rfl _ _ rfl base (.slice a 0 cap) 0 [] rfl (hown1.alloc _) (op3C (0, 1, k)) rfl ext_one w1.heap.size rfl (Blk.new _ _ _) (by omega) (by simp; omega) ?_
    intro v' w2 hown2 hgrow hloc
    go_wp2
    go_ret
    refine ⟨v', rfl, ?_, ((hf.weak).alloc _).grown hgrow (fun x hx => .inl (by rw [hx]; simp))⟩
    rw [ha.out]
    simpa using hown2
  · obtain ⟨g, cap, rfl, hgb, _⟩ := owns_succ hown (by omega)
    have hlt : E.length - 1 < E.length := by omega
    have hsl : SlP w (.slice (some ⟨g, 0, none⟩) E.length cap) E := SlF.of_owns hown
    have hx := getD_some z3 hlt
    have hat : ∀ j u, (op3C (E.getD (E.length - 1) z3))[j]? = some u → j < 3 → (E.flatMap op3C)[(E.length - 1) * 3 + j]? = some u := fun j u hu hj => by
      rw [flat_at op3C 3 (fun _ => rfl) E _ j hj, hx]; exact hu
    have hlast := hs.last h0
    have d1 := owns_at hown (hat 1 _ rfl (by omega))
    have d2 := owns_at hown (hat 2 _ rfl (by omega))
    have hset := fun y => hidIt (flatE_set1 E (E.length - 1) hlt (E.getD (E.length - 1) z3).1 (E.getD (E.length - 1) z3).2.1 (E.getD (E.length - 1) z3).2.2 y hx)
    have ha : Hid (addE E k = if E.length ≠ 0 ∧ (lastE E).2.2 = k then E.set (E.length - 1) ((lastE E).1, (lastE E).2.1 + 1, (lastE E).2.2) else E ++ [(endE E, 1, k)]) := hidIt (by unfold addE; rfl)
    have key := send_calls _ E w hsl hs
    unfold lastE at ha hlast
    clear hat hx hsl hs
    generalize E.getD (E.length - 1) z3 = x at *
    obtain ⟨p, q, r⟩ := x
    simp only at d1 d2 hset ha hlast
    generalize endE E = en at *
    have e1 : (E.length : Int) - 1 = ((E.length - 1 : Nat) : Int) := by omega
    by_cases hr : r = k
    · subst hr
      rw [if_pos ⟨h0, rfl⟩] at ha
      obtain ⟨d1, f1⟩ := d1
      obtain ⟨d2, f2⟩ := d2
      clear key
      go_enter Try.func57, Try.ntmps57
      go_wp2
      go_ret
      refine ⟨_, rfl, ?_, (Fr.refl _ w).setCell (.inl (by simp [Value.ownBlock])) _⟩
      rw [ha.out, List.length_set, (hset (q + 1)).out]
      exact owns_put hown _ _
    · rw [if_neg (fun h => hr h.2)] at ha
      obtain ⟨d1, f1⟩ := d1
      obtain ⟨d2, f2⟩ := d2
      clear hset
      go_enter Try.func57, Try.ntmps57
      go_wp2_with fail
      refine key.mono ?_
      rintro e w1 ⟨rfl, hf⟩
      have hown1 := owns_fr hown hf (by simp)
      have hsz := hf.size
      clear key
      go_wp2_with (at_builtin; refine Hid.out ?_)
      refine hidIt ?_
      refine wpList_append1 42 45 (.agg #[.int .i64 0, .int .i64 0, .int .i64 0]) 3 24 Try.underlying42 infoExt rfl (by decide) (by decide) rfl _ _ rfl base (.slice (some ⟨g, 0, none⟩) E.length cap) E.length (E.flatMap op3C) rfl (hown1.alloc _) (op3C (en, 1, k)) rfl ext_one w1.heap.size rfl (Blk.new _ _ _) (by omega) (by simp; omega) ?_
      intro v' w2 hown2 hgrow hloc
      go_wp2
      go_ret
      refine ⟨v', rfl, ?_, ((hf.weak).alloc _).grown hgrow (fun x hx => .inl (by rw [hx]; simp))⟩
      rw [ha.out]
      simp only [List.length_append, List.length_singleton, List.flatMap_append, List.flatMap_cons, List.flatMap_nil, List.append_nil]
      exact hown2
/-! ### what a row is -/
theorem addE_len (E : List Op3) (k : Int) : (addE E k).length ≤ E.length + 1 := by
  unfold addE
  split
  · simp
  · simp
theorem ofE_snoc (ks : List Int) (k : Int) : ofE (ks ++ [k]) = addE (ofE ks) k := by unfold ofE; rw [List.foldl_append]; rfl
/-- E reads as the kinds d: they lie one behind the other, from 'at' on -/
def rowE : Int → List Op3 → List Int → Prop
  | a, [], d => d = [] ∧ 0 ≤ a
  | a, (f, n, k) :: E, d => f = a ∧ 0 ≤ a ∧ ∃ m : Nat, n = (m : Int) ∧ 1 ≤ m ∧ ∃ d', d = List.replicate m k ++ d' ∧ rowE (a + n) E d'
end Go.Proofs.Ytfmolbgfhchdkaa
