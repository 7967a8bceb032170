/-
  slot.Rest: bytes as slots.
-/
import Derived.Test.YtknbjdbdpdbeiaaOctD
import Derived.Test.YtknbjdbdpdbeiaaOctS
namespace Go.Proofs.Ytknbjdbdpdbeiaa
open Go.RowKit Go.Maps
attribute [local go_sem high] equalSlot0 equalSlotR0 fieldKind

/-- the slot of a number -/
def slD (n : Nat) : Slt := ((n : Int) % 4, (n : Int) / 8, decide (4 ≤ (n : Int) % 8))
theorem slN_slD (n : Nat) : slN (slD n) = n := by
  unfold slN slD
  by_cases h : 4 ≤ (n : Int) % 8
  · simp only [h, decide_true, if_true]; omega
  · simp only [h, decide_false]; simp; omega
theorem slD_slN {s : Slt} (h : rightS s = true) : slD (slN s) = s := by
  obtain ⟨p, q, r⟩ := s
  obtain ⟨a, b, rfl, rfl, ha, hb⟩ := right_bounds h
  have h3 : a = 0 ∨ a = 1 ∨ a = 2 := by omega
  cases r with
  | true =>
    have hn : slN ((a : Int), (b : Int), true) = 8 * b + a + 4 := by unfold slN; simp only [if_true]; omega
    rw [hn]
    unfold slD
    have e1 : ((8 * b + a + 4 : Nat) : Int) % 4 = a := by omega
    have e2 : ((8 * b + a + 4 : Nat) : Int) / 8 = b := by omega
    have e3 : 4 ≤ ((8 * b + a + 4 : Nat) : Int) % 8 := by omega
    rw [e1, e2, decide_eq_true e3]
  | false =>
    have hn : slN ((a : Int), (b : Int), false) = 8 * b + a := by unfold slN; simp; omega
    rw [hn]
    unfold slD
    have e1 : ((8 * b + a : Nat) : Int) % 4 = a := by omega
    have e2 : ((8 * b + a : Nat) : Int) / 8 = b := by omega
    have e3 : ¬ 4 ≤ ((8 * b + a : Nat) : Int) % 8 := by omega
    rw [e1, e2, decide_eq_false e3]
/-- slot j of a row of bytes; all -/
def slAt (l : List UInt8) (j : Nat) : Slt := slD (valL ((l.drop (4 * j)).take 4))
def restL (l : List UInt8) : List Slt := (List.range (l.length / 4)).map (slAt l)
theorem restL_length (l : List UInt8) : (restL l).length = l.length / 4 := by simp [restL]
theorem restL_getD {l : List UInt8} {j : Nat} (h : j < l.length / 4) : (restL l).getD j zS = slAt l j := by
  rw [List.getD_eq_getElem?_getD, List.getElem?_eq_getElem (by rw [restL_length]; exact h)]
  simp [restL]
theorem flat_slY_drop : ∀ (g : List Slt) (j : Nat), (g.flatMap slY).drop (4 * j) = (g.drop j).flatMap slY
  | [], j => by simp
  | s :: g, 0 => by simp
  | s :: g, j + 1 => by
    rw [List.flatMap_cons, List.drop_succ_cons, ← flat_slY_drop g j, show 4 * (j + 1) = (slY s).length + 4 * j by rw [slY_length]; omega, List.drop_length_add_append]
theorem restL_flat {g : List Slt} (h : ∀ s ∈ g, rightS s = true) : restL (g.flatMap slY) = g := by
  have hl : (g.flatMap slY).length / 4 = g.length := by rw [flat_slY_len]; omega
  apply List.ext_getElem
  · rw [restL_length, hl]
  · intro j h1 h2
    simp only [restL, List.getElem_map, List.getElem_range]
    unfold slAt
    rw [flat_slY_drop, List.drop_eq_getElem_cons h2, List.flatMap_cons, List.take_append_of_le_length (by rw [slY_length]; exact Nat.le_refl _), List.take_of_length_le (by rw [slY_length]; exact Nat.le_refl _)]
    unfold slY
    have hr := h _ (List.getElem_mem h2)
    have hb : slN g[j] < 256 ^ 4 := by
      generalize g[j] = s at hr
      obtain ⟨p, q, r⟩ := s
      obtain ⟨a, b, rfl, rfl, ha, hb⟩ := right_bounds hr
      unfold slN
      cases r <;> simp <;> omega
    rw [valL_numL, Nat.mod_eq_of_lt hb, slD_slN hr]
def RestPost (w : World) (l : List UInt8) (e : Ending) (w' : World) : Prop :=
  ((∀ s ∈ restL l, rightS s = true) ∧ ∃ u, e = .returned (.tuple #[u, .int .i64 0]) ∧ w'.ownsRow w.heap.size 43 3 u (restL l).length ((restL l).flatMap slotC) ∧ Fr [] w w') ∨
  ((∃ s ∈ restL l, rightS s = false) ∧ e = .returned (.tuple #[.slice none 0 0, .int .i64 60]) ∧ Fr [] w w')
theorem rest_num {l : List UInt8} {k m : Nat} (hm : l.length = 4 * m) (hk : k < m) : rdNum (l.drop (4 * k)) 0 4 = (l.drop (4 * (k + 1)), 0, valL ((l.drop (4 * k)).take 4)) := by
  unfold rdNum
  rw [if_neg (by simp), if_neg (by simp; omega), List.drop_drop]
  rfl
theorem take_restL {l : List UInt8} {k : Nat} (h : k < l.length / 4) : ((restL l).take (k + 1)).flatMap slotC = ((restL l).take k).flatMap slotC ++ slotC (slAt l k) := by
  have h' : k < (restL l).length := by rw [restL_length]; exact h
  have hg : (restL l)[k] = slAt l k := by simp [restL]
  rw [List.take_succ_eq_append_getElem h', hg, List.flatMap_append]
  simp
def slLen : Value → Nat
  | .slice _ n _ => n
  | _ => 0
set_option maxRecDepth 100000 in
set_option maxHeartbeats 1600000 in
theorem Rest_calls (v : Value) (l : List UInt8) (m : Nat) (w : World) (hs : SlY w v l) (hok : okV v) (hm : l.length = 4 * m) (hl : m ≤ 100000) : Calls Try.prog 48 #[v] w (RestPost w l) := by
  obtain ⟨a, cap, rfl, _, _, _⟩ := hs.open
  have Hm := hidIt hm
  have hl4 : l.length ≤ 400000 := by omega
  clear hm
  go_enter Try.func48, Try.ntmps48
  go_wp2_with fail
  refine (NewReader_calls _ l _ hs hok (by omega)).mono ?_
  rintro e w1 ⟨rb, vb, rfl, h1, h2, hR, hf1⟩
  have hz1 := hR.lt
  go_wp2
  go_loopw [4] (fun u wr => ∃ k : Nat, k ≤ m ∧ (∀ s ∈ (restL l).take k, rightS s = true) ∧ wr.ownsRow w1.heap.size 43 3 u k (((restL l).take k).flatMap slotC) ∧ RdW wr rb vb (l.drop (4 * k)) 0 ∧ Fr [rb] w1 wr) (fun u _ => m - slLen u)
  case atStart => exact ⟨0, Nat.zero_le _, by simp, World.ownsRow_nil _ _ _ _, by simpa using hR, Fr.refl _ _⟩
  case round =>
    clear hR
    obtain ⟨k, hk, hrt, hown, hR, hF⟩ := hrel
    obtain ⟨au, cu, rfl, _⟩ := Sl.of_owns hown
    have hlen : Hid ((l.drop (4 * k)).length = 4 * (m - k)) := hidIt (by have := Hm.out; simp; omega)
    have hFw := hf1.trans hF (fun x hx hl => by simp at hx; omega)
    have hzr := hF.size
    by_cases hlt : k < m
    · have hpos : (0 : Int) < ((l.drop (4 * k)).length : Int) := by have := hlen.out; omega
      have kN := Num_calls 4 (by omega) rb vb (l.drop (4 * k)) 0 _ hR
      rw [rest_num Hm.out hlt] at kN
      have hN : valL ((l.drop (4 * k)).take 4) < 4294967296 := by
        have := valL_lt ((l.drop (4 * k)).take 4)
        have h4 : ((l.drop (4 * k)).take 4).length = 4 := by rw [List.length_take, hlen.out]; omega
        rw [h4] at this
        exact this
      have Hs : Hid (slAt l k = slD (valL ((l.drop (4 * k)).take 4))) := hidIt rfl
      have Hst := hidIt (take_restL (l := l) (k := k) (by have := Hm.out; omega))
      have Hmem : Hid (slAt l k ∈ restL l ∧ ∀ s ∈ (restL l).take (k + 1), s ∈ (restL l).take k ∨ s = slAt l k) := hidIt (by
        have h' : k < (restL l).length := by rw [restL_length]; have := Hm.out; omega
        have hg : (restL l)[k] = slAt l k := by simp [restL]
        refine ⟨by rw [← hg]; exact List.getElem_mem h', fun s hs => ?_⟩
        rw [List.take_succ_eq_append_getElem h', hg] at hs
        simpa using hs)
      generalize hNN : valL ((l.drop (4 * k)).take 4) = N at *
      clear hNN
      clear hlen
      generalize l.drop (4 * k) = D at *
      go_wp2_with fail
      refine (Left_calls rb vb _ 0 _ hR).mono ?_
      rintro e w2 ⟨rfl, rfl⟩
      go_wp2_with fail
      refine kN.mono ?_
      rintro e w3 ⟨rfl, hR3, hf3⟩
      have hF3 := hFw.trans hf3 (fun x hx hl => by simp at hx; omega)
      have hown3 := owns_fr hown hf3 (fun x hx hm => by have := own_base hown x hx; simp at hm; omega)
      have hf13 := hF.trans' hf3
      have kR := fun X => Right_calls ((N : Int) % 4) ((N : Int) / 8) (decide (4 ≤ (N : Int) % 8)) X
      have hsN : Hid (((N : Int) % 4, (N : Int) / 8, decide (4 ≤ (N : Int) % 8)) = slAt l k) := hidIt Hs.out.symm
      rw [hsN.out] at kR
      have hfa := (Fr.refl [] w3).alloc (.cells #[.int .i64 ((N : Int) % 4), .int .i64 ((N : Int) / 8), .bool (decide (4 ≤ (N : Int) % 8))] 43)
      have B7 := Blk.new w3 [.int .i64 ((N : Int) % 4), .int .i64 ((N : Int) / 8), .bool (decide (4 ≤ (N : Int) % 8))] 43
      have hRa := hR3.fr0 hfa
      have hz3 := hf13.size
      go_wp2_with fail
      refine (Err_calls rb vb _ 0 _ hRa).mono ?_
      rintro e w4 ⟨rfl, rfl⟩
      cases hr : rightS (slAt l k) with
      | false =>
        rw [hr] at kR
        go_wp2_with fail
        refine (kR _).mono ?_
        rintro e w4 ⟨rfl, hf4⟩
        go_wp2
        go_ret2
        exact .inr ⟨⟨_, Hmem.out.1, hr⟩, rfl, (hF3.trans0 hfa).trans0 hf4⟩
      | true =>
        rw [hr] at kR
        go_wp2_with fail
        refine (kR _).mono ?_
        rintro e w4 ⟨rfl, hf4⟩
        have hown4 := owns_fr (owns_fr hown3 hfa (by simp)) hf4 (by simp)
        have hF4 := (hf13.trans0 hfa).trans0 hf4
        have hR4 := hRa.fr0 hf4
        replace B7 := B7.fr0 hf4
        have c7 := B7.cell
        have hob := own_base hown4
        have hz4 := hF4.size
        clear kR kN hR3 hRa hR hown hown3 hfa hf4 hs
        go_wp2_with (at_builtin; refine Hid.out ?_)
        refine hidIt ?_
        refine wpList_append1 49 43 _ 3 24 Try.underlying49 infoSlot rfl (by decide) (by decide) rfl _ _ rfl w1.heap.size (.slice au k cu) _ _ rfl (hown4.alloc _) [_, _, _] rfl (by intro u hu; simp at hu; rcases hu with rfl | rfl | rfl <;> rfl) w4.heap.size rfl (Blk.new w4 [_, _, _] _) (by omega) (by simp; omega) ?_
        intro v5 w5 hown5 hgrow5 hloc5
        have e1 : [Value.int .i64 ((N : Int) % 4), Value.int .i64 ((N : Int) / 8), Value.bool (decide (4 ≤ (N : Int) % 8))] = slotC (slAt l k) := by rw [← hsN.out]
        rw [e1, ← Hst.out] at hown5
        have hF5 := (hF4.alloc (.cells #[.int .i64 ((N : Int) % 4), .int .i64 ((N : Int) / 8), .bool (decide (4 ≤ (N : Int) % 8))] 43)).grown hgrow5 (fun x hx => .inr (hob x hx))
        have hR5 := (hR4.fr0 ((Fr.refl [] w4).alloc (.cells #[.int .i64 ((N : Int) % 4), .int .i64 ((N : Int) / 8), .bool (decide (4 ≤ (N : Int) % 8))] 43))).fr (Fr.of_grown hgrow5) (fun hx => by have := hob rb (by simpa using hx); omega) (fun hx => by have := hob vb (by simpa using hx); omega)
        obtain ⟨a5, c5, rfl, _⟩ := Sl.of_owns hown5
        have hrt5 : ∀ s ∈ (restL l).take (k + 1), rightS s = true := fun s hs => by
          rcases Hmem.out.2 s hs with h | rfl
          · exact hrt s h
          · exact hr
        clear e1
        go_wp2
        go_roundw
        case rel => exact ⟨k + 1, by omega, hrt5, hown5, hR5, hF5⟩
        case measure => simp [slLen]; omega
    · have hke : k = m := by omega
      subst hke
      have hpos : ¬ (0 : Int) < ((l.drop (4 * k)).length : Int) := by have := hlen.out; omega
      have hall : (restL l).take k = restL l := List.take_of_length_le (by rw [restL_length]; have := Hm.out; omega)
      have hkl : Hid (k = (restL l).length) := hidIt (by rw [restL_length]; have := Hm.out; omega)
      rw [hall] at hrt hown
      clear hlen
      generalize l.drop (4 * k) = D at *
      go_wp2_with fail
      refine (Left_calls rb vb _ 0 _ hR).mono ?_
      rintro e w2 ⟨rfl, rfl⟩
      go_wp2
      go_ret2
      refine .inl ⟨hrt, _, rfl, ?_, hFw⟩
      rw [← hkl.out]
      exact owns_base hown hf1.size
end Go.Proofs.Ytknbjdbdpdbeiaa
