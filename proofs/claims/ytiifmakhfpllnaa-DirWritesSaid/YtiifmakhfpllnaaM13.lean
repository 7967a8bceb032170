/-
  law11: does: a call of a script on a directory.
-/
import Derived.Test.YtiifmakhfpllnaaM12
import Derived.Test.YtiifmakhfpllnaaM03
namespace Go.Proofs.Ytiifmakhfpllnaa
open Go.RowKit Go.Maps
attribute [local go_sem] mapAt_alloc mapAt_setCell mapAt_drew mapAt_drewN cells_str store_str

/-- what a call leaves, and answers -/
def doesPost (db mb : Nat) (L : List Cel) (o : OpD) (w : World) (e : Ending) (w' : World) : Prop :=
  ∃ L', e = .returned (.int .i64 (runD (L.map (·.x)) o).2) ∧ L'.map (·.x) = (runD (L.map (·.x)) o).1 ∧ DirW w' db mb L' ∧ (∀ k ∈ feet L', k ∈ feet L ∨ w.heap.size ≤ k) ∧ Fr (mb :: feet L) w w'
theorem feet_oneC (L : List Cel) (s : List UInt8) (f : Ent → Ent) : feet (oneC L s f) = feet L := feet_chC L _ f
theorem feet_allC (L : List Cel) (f : Ent → Ent) : feet (allC L f) = feet L := feet_chC L _ f
theorem feet_insC {L : List Cel} {c : Cel} {k : Nat} (h : k ∈ feet (insC c L)) : k ∈ c.feet ∨ k ∈ feet L := by
  obtain ⟨d, hd, hk⟩ := mem_feet.1 h
  rcases mem_insC.1 hd with rfl | hd
  · exact .inl hk
  · exact .inr (mem_feet.2 ⟨d, hd, hk⟩)
theorem dMerge_calls (db mb : Nat) (L : List Cel) (s t : List UInt8) (w : World) (h : DirW w db mb L) (hs : s.length ≤ maxLen) (ht : t.length ≤ maxLen) :
    Calls Try.prog 33 #[.pointer (some ⟨db, 0, none⟩), strL s, strL t] w fun e w' => e = .returned (.int .i64 (mgO (L.map (·.x)) s t).2) ∧ ∃ L', L'.map (·.x) = (mgO (L.map (·.x)) s t).1 ∧ DirW w' db mb L' ∧ feet L' = feet L ∧ Fr (feet L) w w' := by
  unfold mgO
  rw [findC_E, findC_E]
  cases h1 : findC L s with
  | none =>
    refine (dMerge_none db mb L s t w h hs ht (.inl h1)).mono ?_
    rintro e w1 ⟨rfl, hf⟩
    first | exact ⟨rfl, L, rfl, h.fr0 hf, rfl, hf.weak⟩ | exact ⟨L, rfl, rfl, h.fr0 hf, rfl, hf.weak⟩
  | some c =>
    cases h2 : findC L t with
    | none =>
      refine (dMerge_none db mb L s t w h hs ht (.inr h2)).mono ?_
      rintro e w1 ⟨rfl, hf⟩
      first | exact ⟨rfl, L, rfl, h.fr0 hf, rfl, hf.weak⟩ | exact ⟨L, rfl, rfl, h.fr0 hf, rfl, hf.weak⟩
    | some d =>
      refine (dMerge_some db mb L s t c d w h hs ht h1 h2).mono ?_
      rintro e w1 ⟨rfl, hD, hf⟩
      exact ⟨rfl, _, oneC_map _ _ _, hD, feet_oneC _ _ _, hf.mono fun k hk _ => mem_feet.2 ⟨c, (findC_mem h1).1, by simp at hk; simp [Cel.feet]; omega⟩⟩

set_option maxRecDepth 100000 in
set_option maxHeartbeats 800000 in
theorem does_rm (db mb : Nat) (L : List Cel) (s t : List UInt8) (sec gr fr lo : Int) (on : Bool) (w : World) (h : DirW w db mb L) (hw : wfD ⟨1, s, t, sec, gr, fr, lo, on⟩) :
    Calls Try.prog 12 #[.pointer (some ⟨db, 0, none⟩), opdV ⟨1, s, t, sec, gr, fr, lo, on⟩] w (doesPost db mb L ⟨1, s, t, sec, gr, fr, lo, on⟩ w) := by
  have hk : runD (L.map (·.x)) ⟨1, s, t, sec, gr, fr, lo, on⟩ = (rmE (L.map (·.x)) s, codeE (L.map (·.x)) s) := rfl
  have hF0 := (Fr.refl [] w).alloc (.cells #[.int .i64 1, strL s, strL t, .int .i64 sec, .int .i64 gr, .int .i64 fr, .int .i64 lo, .bool on] 28)
  have B := Blk.new w [.int .i64 1, strL s, strL t, .int .i64 sec, .int .i64 gr, .int .i64 fr, .int .i64 lo, .bool on] 28
  have h1 := h.fr0 hF0
  have cB := B.cell
  obtain ⟨_, w1, w2, w3, w4, w5, w6⟩ := hw
  simp only at w1 w2 w3 w4 w5 w6
  unfold doesPost
  rw [hk]
  unfold opdV opdC
  go_enter Try.func12, Try.ntmps12
  go_wp2_with fail
  refine (Remove_calls db mb L s _ h1 w5).mono ?_
  rintro e w1 ⟨rfl, hD, hf⟩
  go_wp2
  go_ret
  exact ⟨_, ret_int (codeE_map L s).symm, rmC_E L s, hD, fun k hk => .inl ((feet_rm L s).subset hk), (hF0.weak).trans' (hf.mono fun k hk _ => by simp at hk; simp [hk])⟩

set_option maxRecDepth 100000 in
set_option maxHeartbeats 800000 in
theorem does_sw (db mb : Nat) (L : List Cel) (s t : List UInt8) (sec gr fr lo : Int) (on : Bool) (w : World) (h : DirW w db mb L) (hw : wfD ⟨2, s, t, sec, gr, fr, lo, on⟩) :
    Calls Try.prog 12 #[.pointer (some ⟨db, 0, none⟩), opdV ⟨2, s, t, sec, gr, fr, lo, on⟩] w (doesPost db mb L ⟨2, s, t, sec, gr, fr, lo, on⟩ w) := by
  have hk : runD (L.map (·.x)) ⟨2, s, t, sec, gr, fr, lo, on⟩ = (oneE (L.map (·.x)) s (onE on), codeE (L.map (·.x)) s) := rfl
  have hF0 := (Fr.refl [] w).alloc (.cells #[.int .i64 2, strL s, strL t, .int .i64 sec, .int .i64 gr, .int .i64 fr, .int .i64 lo, .bool on] 28)
  have B := Blk.new w [.int .i64 2, strL s, strL t, .int .i64 sec, .int .i64 gr, .int .i64 fr, .int .i64 lo, .bool on] 28
  have h1 := h.fr0 hF0
  have cB := B.cell
  obtain ⟨_, w1, w2, w3, w4, w5, w6⟩ := hw
  simp only at w1 w2 w3 w4 w5 w6
  unfold doesPost
  rw [hk]
  unfold opdV opdC
  go_enter Try.func12, Try.ntmps12
  go_wp2_with fail
  refine (Switch_calls db mb L s on _ h1 w5).mono ?_
  rintro e w1 ⟨rfl, hD, hf⟩
  go_wp2
  go_ret
  exact ⟨_, ret_int (codeE_map L s).symm, oneC_map _ _ _, hD, fun k hk => .inl (by rwa [feet_oneC] at hk), (hF0.weak).trans' (hf.mono fun k hk _ => List.mem_cons_of_mem _ hk)⟩

set_option maxRecDepth 100000 in
set_option maxHeartbeats 800000 in
theorem does_cl (db mb : Nat) (L : List Cel) (s t : List UInt8) (sec gr fr lo : Int) (on : Bool) (w : World) (h : DirW w db mb L) (hw : wfD ⟨3, s, t, sec, gr, fr, lo, on⟩) :
    Calls Try.prog 12 #[.pointer (some ⟨db, 0, none⟩), opdV ⟨3, s, t, sec, gr, fr, lo, on⟩] w (doesPost db mb L ⟨3, s, t, sec, gr, fr, lo, on⟩ w) := by
  have hk : runD (L.map (·.x)) ⟨3, s, t, sec, gr, fr, lo, on⟩ = (oneE (L.map (·.x)) s clrE, codeE (L.map (·.x)) s) := rfl
  have hF0 := (Fr.refl [] w).alloc (.cells #[.int .i64 3, strL s, strL t, .int .i64 sec, .int .i64 gr, .int .i64 fr, .int .i64 lo, .bool on] 28)
  have B := Blk.new w [.int .i64 3, strL s, strL t, .int .i64 sec, .int .i64 gr, .int .i64 fr, .int .i64 lo, .bool on] 28
  have h1 := h.fr0 hF0
  have cB := B.cell
  obtain ⟨_, w1, w2, w3, w4, w5, w6⟩ := hw
  simp only at w1 w2 w3 w4 w5 w6
  unfold doesPost
  rw [hk]
  unfold opdV opdC
  go_enter Try.func12, Try.ntmps12
  go_wp2_with fail
  refine (dClear_calls db mb L s _ h1 w5).mono ?_
  rintro e w1 ⟨rfl, hD, hf⟩
  go_wp2
  go_ret
  exact ⟨_, ret_int (codeE_map L s).symm, oneC_map _ _ _, hD, fun k hk => .inl (by rwa [feet_oneC] at hk), (hF0.weak).trans' (hf.mono fun k hk _ => List.mem_cons_of_mem _ hk)⟩

set_option maxRecDepth 100000 in
set_option maxHeartbeats 800000 in
theorem does_mg (db mb : Nat) (L : List Cel) (s t : List UInt8) (sec gr fr lo : Int) (on : Bool) (w : World) (h : DirW w db mb L) (hw : wfD ⟨4, s, t, sec, gr, fr, lo, on⟩) :
    Calls Try.prog 12 #[.pointer (some ⟨db, 0, none⟩), opdV ⟨4, s, t, sec, gr, fr, lo, on⟩] w (doesPost db mb L ⟨4, s, t, sec, gr, fr, lo, on⟩ w) := by
  have hk : runD (L.map (·.x)) ⟨4, s, t, sec, gr, fr, lo, on⟩ = mgO (L.map (·.x)) s t := rfl
  have hF0 := (Fr.refl [] w).alloc (.cells #[.int .i64 4, strL s, strL t, .int .i64 sec, .int .i64 gr, .int .i64 fr, .int .i64 lo, .bool on] 28)
  have B := Blk.new w [.int .i64 4, strL s, strL t, .int .i64 sec, .int .i64 gr, .int .i64 fr, .int .i64 lo, .bool on] 28
  have h1 := h.fr0 hF0
  have cB := B.cell
  obtain ⟨_, w1, w2, w3, w4, w5, w6⟩ := hw
  simp only at w1 w2 w3 w4 w5 w6
  unfold doesPost
  rw [hk]
  unfold opdV opdC
  go_enter Try.func12, Try.ntmps12
  go_wp2_with fail
  refine (dMerge_calls db mb L s t _ h1 w5 w6).mono ?_
  rintro e w1 ⟨rfl, L2, e2, hD, e3, hf⟩
  go_wp2
  go_ret
  exact ⟨L2, rfl, e2, hD, fun k hk => .inl (by rwa [e3] at hk), (hF0.weak).trans' (hf.mono fun k hk _ => List.mem_cons_of_mem _ hk)⟩

set_option maxRecDepth 100000 in
set_option maxHeartbeats 800000 in
theorem does_wr (db mb : Nat) (L : List Cel) (s t : List UInt8) (sec gr fr lo : Int) (on : Bool) (w : World) (h : DirW w db mb L) (hw : wfD ⟨5, s, t, sec, gr, fr, lo, on⟩) :
    Calls Try.prog 12 #[.pointer (some ⟨db, 0, none⟩), opdV ⟨5, s, t, sec, gr, fr, lo, on⟩] w (doesPost db mb L ⟨5, s, t, sec, gr, fr, lo, on⟩ w) := by
  have hk : runD (L.map (·.x)) ⟨5, s, t, sec, gr, fr, lo, on⟩ = (allE (L.map (·.x)) (wrE fr lo), 0) := rfl
  have hF0 := (Fr.refl [] w).alloc (.cells #[.int .i64 5, strL s, strL t, .int .i64 sec, .int .i64 gr, .int .i64 fr, .int .i64 lo, .bool on] 28)
  have B := Blk.new w [.int .i64 5, strL s, strL t, .int .i64 sec, .int .i64 gr, .int .i64 fr, .int .i64 lo, .bool on] 28
  have h1 := h.fr0 hF0
  have cB := B.cell
  obtain ⟨_, w1, w2, w3, w4, w5, w6⟩ := hw
  simp only at w1 w2 w3 w4 w5 w6
  unfold doesPost
  rw [hk]
  unfold opdV opdC
  go_enter Try.func12, Try.ntmps12
  go_wp2_with fail
  refine (dWrite_calls db mb L fr lo _ h1 w4).mono ?_
  rintro e w1 ⟨rfl, hD, hf⟩
  go_wp2
  go_ret
  exact ⟨_, rfl, allC_map _ _, hD, fun k hk => .inl (by rwa [feet_allC] at hk), (hF0.weak).trans' (hf.mono fun k hk _ => List.mem_cons_of_mem _ hk)⟩

set_option maxRecDepth 100000 in
set_option maxHeartbeats 800000 in
theorem does_rz (db mb : Nat) (L : List Cel) (s t : List UInt8) (sec gr fr lo : Int) (on : Bool) (w : World) (h : DirW w db mb L) (hw : wfD ⟨6, s, t, sec, gr, fr, lo, on⟩) :
    Calls Try.prog 12 #[.pointer (some ⟨db, 0, none⟩), opdV ⟨6, s, t, sec, gr, fr, lo, on⟩] w (doesPost db mb L ⟨6, s, t, sec, gr, fr, lo, on⟩ w) := by
  have hk : runD (L.map (·.x)) ⟨6, s, t, sec, gr, fr, lo, on⟩ = (if okSec sec = true then (allE (L.map (·.x)) (rzE sec), 0) else (L.map (·.x), 1)) := rfl
  have hF0 := (Fr.refl [] w).alloc (.cells #[.int .i64 6, strL s, strL t, .int .i64 sec, .int .i64 gr, .int .i64 fr, .int .i64 lo, .bool on] 28)
  have B := Blk.new w [.int .i64 6, strL s, strL t, .int .i64 sec, .int .i64 gr, .int .i64 fr, .int .i64 lo, .bool on] 28
  have h1 := h.fr0 hF0
  have cB := B.cell
  obtain ⟨_, w1, w2, w3, w4, w5, w6⟩ := hw
  simp only at w1 w2 w3 w4 w5 w6
  unfold doesPost
  rw [hk]
  unfold opdV opdC
  cases hs : okSec sec with
  | true =>
    rw [if_pos rfl]
    go_enter Try.func12, Try.ntmps12
    go_wp2_with fail
    refine (dResize_yes db mb L sec _ h1 hs).mono ?_
    rintro e w1 ⟨rfl, hD, hf⟩
    go_wp2
    go_ret
    exact ⟨_, rfl, allC_map _ _, hD, fun k hk => .inl (by rwa [feet_allC] at hk), (hF0.weak).trans' (hf.mono fun k hk _ => List.mem_cons_of_mem _ hk)⟩
  | false =>
    rw [if_neg (by simp)]
    go_enter Try.func12, Try.ntmps12
    go_wp2_with fail
    refine (dResize_no db sec _ hs).mono ?_
    rintro e w1 ⟨rfl, hf⟩
    go_wp2
    go_ret
    exact ⟨L, rfl, rfl, h1.fr0 hf, fun k hk => .inl hk, (hF0.trans0 hf).weak⟩

set_option maxRecDepth 100000 in
set_option maxHeartbeats 800000 in
theorem does_ot (db mb : Nat) (L : List Cel) (k : Int) (s t : List UInt8) (sec gr fr lo : Int) (on : Bool) (w : World) (h : DirW w db mb L) (n0 : ¬ k = 0) (n1 : ¬ k = 1) (n2 : ¬ k = 2) (n3 : ¬ k = 3) (n4 : ¬ k = 4) (n5 : ¬ k = 5) (n6 : ¬ k = 6) (hw : wfD ⟨k, s, t, sec, gr, fr, lo, on⟩) :
    Calls Try.prog 12 #[.pointer (some ⟨db, 0, none⟩), opdV ⟨k, s, t, sec, gr, fr, lo, on⟩] w (doesPost db mb L ⟨k, s, t, sec, gr, fr, lo, on⟩ w) := by
  have hk : runD (L.map (·.x)) ⟨k, s, t, sec, gr, fr, lo, on⟩ = (L.map (·.x), 0) := by simp [runD, n0, n1, n2, n3, n4, n5, n6]
  have hF0 := (Fr.refl [] w).alloc (.cells #[.int .i64 k, strL s, strL t, .int .i64 sec, .int .i64 gr, .int .i64 fr, .int .i64 lo, .bool on] 28)
  have B := Blk.new w [.int .i64 k, strL s, strL t, .int .i64 sec, .int .i64 gr, .int .i64 fr, .int .i64 lo, .bool on] 28
  have h1 := h.fr0 hF0
  have cB := B.cell
  obtain ⟨_, w1, w2, w3, w4, w5, w6⟩ := hw
  simp only at w1 w2 w3 w4 w5 w6
  unfold doesPost
  rw [hk]
  unfold opdV opdC
  clear hk
  have m0 : (k == 0) = false := by simpa using n0
  have m1 : (k == 1) = false := by simpa using n1
  have m2 : (k == 2) = false := by simpa using n2
  have m3 : (k == 3) = false := by simpa using n3
  have m4 : (k == 4) = false := by simpa using n4
  have m5 : (k == 5) = false := by simpa using n5
  have m6 : (k == 6) = false := by simpa using n6
  clear n0 n1 n2 n3 n4 n5 n6
  go_enter Try.func12, Try.ntmps12
  go_wp2
  go_ret
  first | exact ⟨rfl, L, rfl, h1, fun k hk => .inl hk, hF0.weak⟩ | exact ⟨L, rfl, rfl, h1, fun k hk => .inl hk, hF0.weak⟩

theorem addO_arg {E : List Ent} {o : OpD} (h : okNew o.sec o.gr = false ∨ okName o.name = false) : addO E o = (E, 1) := if_pos h
theorem addO_there {E : List Ent} {o : OpD} (h : okNew o.sec o.gr = true) (h2 : okName o.name = true) (h3 : findE E o.name ≠ none ∨ 8 ≤ E.length) : addO E o = (E, 111) := by
  unfold addO
  rw [if_neg (by rw [h, h2]; simp), if_pos h3]
theorem addO_yes {E : List Ent} {o : OpD} (h : okNew o.sec o.gr = true) (h2 : okName o.name = true) (h3 : ¬ (findE E o.name ≠ none ∨ 8 ≤ E.length)) : addO E o = (insE (newE o) E, 0) := by
  unfold addO
  rw [if_neg (by rw [h, h2]; simp), if_neg h3]

set_option maxRecDepth 100000 in
set_option maxHeartbeats 800000 in
theorem does_ad (db mb : Nat) (L : List Cel) (s t : List UInt8) (sec gr fr lo : Int) (on : Bool) (w : World) (h : DirW w db mb L) (hw : wfD ⟨0, s, t, sec, gr, fr, lo, on⟩) :
    Calls Try.prog 12 #[.pointer (some ⟨db, 0, none⟩), opdV ⟨0, s, t, sec, gr, fr, lo, on⟩] w (doesPost db mb L ⟨0, s, t, sec, gr, fr, lo, on⟩ w) := by
  have hk : runD (L.map (·.x)) ⟨0, s, t, sec, gr, fr, lo, on⟩ = addO (L.map (·.x)) ⟨0, s, t, sec, gr, fr, lo, on⟩ := rfl
  have hF0 := (Fr.refl [] w).alloc (.cells #[.int .i64 0, strL s, strL t, .int .i64 sec, .int .i64 gr, .int .i64 fr, .int .i64 lo, .bool on] 28)
  have B := Blk.new w [.int .i64 0, strL s, strL t, .int .i64 sec, .int .i64 gr, .int .i64 fr, .int .i64 lo, .bool on] 28
  have h1 := h.fr0 hF0
  have cB := B.cell
  obtain ⟨_, w1, w2, w3, w4, w5, w6⟩ := hw
  simp only at w1 w2 w3 w4 w5 w6
  unfold doesPost
  rw [hk]
  unfold opdV opdC
  clear hk
  obtain ⟨R, hR⟩ : ∃ R, R = addO (L.map (·.x)) ⟨0, s, t, sec, gr, fr, lo, on⟩ := ⟨_, rfl⟩
  rw [← hR]
  have HR := hidIt hR
  clear hR
  cases hn : okNew sec gr with
  | false =>
    have hR2 : R = (L.map (·.x), 1) := HR.out.trans (addO_arg (.inl hn))
    subst hR2
    clear HR
    go_enter Try.func12, Try.ntmps12
    go_wp2_with fail
    refine (New_no sec gr _ hn).mono ?_
    rintro e w1 ⟨rfl, rfl⟩
    go_wp2_with fail
    refine (Add_arg s _ none _ (.inr rfl)).mono ?_
    rintro e w2 ⟨rfl, hf2⟩
    go_wp2
    go_ret
    first | exact ⟨rfl, L, rfl, h1.fr0 hf2, fun k hk => .inl hk, (hF0.trans0 hf2).weak⟩ | exact ⟨L, rfl, rfl, h1.fr0 hf2, fun k hk => .inl hk, (hF0.trans0 hf2).weak⟩
  | true =>
    go_enter Try.func12, Try.ntmps12
    go_wp2_with fail
    refine (New_yes sec gr _ hn).mono ?_
    rintro e w1 ⟨tb, bm, rfl, n1, n2, hB, hf⟩
    have B1 := B.fr0 hf
    have cB1 := B1.cell
    have hD1 := h1.fr0 hf
    have hF1 := hF0.trans0 hf
    simp only [World.size_alloc] at n1 n2
    have hBl := B1.lt
    go_wp2_with fail
    refine (Set_calls tb bm _ _ _ fr lo w1 hB w4).mono ?_
    rintro e w2 ⟨rfl, hB2, hf2⟩
    have cB2 := (B1.fr hf2 (by simp; omega)).cell
    have hD2 := hD1.fr hf2 (fun k hk hx => by have := h.lt k hk; have := List.mem_singleton.1 hx; omega)
    have hF2 : Fr [] w w2 := hF1.trans hf2 (fun x hx hl => by have := List.mem_singleton.1 hx; omega)
    have hp : pow2 (gr.toNat : Int) = true := by
      have h2 : pow2 gr = true := by simp [okNew] at hn; exact hn.2
      have := pow2_le h2
      rw [Int.toNat_of_nonneg (by omega)]
      exact h2
    have hnew : newE ⟨0, s, t, sec, gr, fr, lo, on⟩ = ⟨s, true, true, (doS gr.toNat (sec.toNat, List.replicate (gran sec.toNat gr.toNat) false) (0, fr, lo)).1.1, gr.toNat, (doS gr.toNat (sec.toNat, List.replicate (gran sec.toNat gr.toNat) false) (0, fr, lo)).1.2⟩ := rfl
    have Hnew := hidIt hnew
    have Hn := hidIt hn
    clear hnew B1 cB1 hD1 hf hf2 hB hF1 hn
    generalize doS gr.toNat (sec.toNat, List.replicate (gran sec.toNat gr.toNat) false) (0, fr, lo) = q at *
    cases hr : okName s with
    | false =>
      have hR2 : R = (L.map (·.x), 1) := HR.out.trans (addO_arg (.inr hr))
      subst hR2
      clear HR
      go_wp2_with fail
      refine (Add_arg s _ (some ⟨tb, 0, none⟩) _ (.inl hr)).mono ?_
      rintro e w3 ⟨rfl, hf3⟩
      go_wp2
      go_ret
      first | exact ⟨rfl, L, rfl, hD2.fr0 hf3, fun k hk => .inl hk, (hF2.trans0 hf3).weak⟩ | exact ⟨L, rfl, rfl, hD2.fr0 hf3, fun k hk => .inl hk, (hF2.trans0 hf3).weak⟩
    | true =>
      by_cases hth : findC L s ≠ none ∨ 8 ≤ L.length
      · have hth' : findE (L.map (·.x)) s ≠ none ∨ 8 ≤ (L.map (·.x)).length := by rw [findC_isNone, List.length_map]; exact hth
        have hR2 : R = (L.map (·.x), 111) := HR.out.trans (addO_there Hn.out hr hth')
        subst hR2
        clear HR hth'
        go_wp2_with fail
        refine (Add_there db mb L s ⟨tb, 0, none⟩ _ hD2 hr hth).mono ?_
        rintro e w3 ⟨rfl, hf3⟩
        clear hth
        go_wp2
        go_ret
        first | exact ⟨rfl, L, rfl, hD2.fr0 hf3, fun k hk => .inl hk, (hF2.trans0 hf3).weak⟩ | exact ⟨L, rfl, rfl, hD2.fr0 hf3, fun k hk => .inl hk, (hF2.trans0 hf3).weak⟩
      · have hth' : ¬ (findE (L.map (·.x)) s ≠ none ∨ 8 ≤ (L.map (·.x)).length) := by rw [findC_isNone, List.length_map]; exact hth
        have hR2 : R = (insE (newE ⟨0, s, t, sec, gr, fr, lo, on⟩) (L.map (·.x)), 0) := HR.out.trans (addO_yes Hn.out hr hth')
        subst hR2
        clear HR
        have hc : findC L s = none := Classical.byContradiction fun h => hth (.inl h)
        have h8 : L.length < 8 := by have := fun h => hth (.inr h); omega
        clear hth hth'
        go_wp2_with fail
        refine (Add_yes db mb L s tb bm _ _ _ _ hD2 hr hc h8 hB2 hp).mono ?_
        rintro e w3 ⟨rfl, c, hcx, hD3, hcn, hf3⟩
        go_wp2
        go_ret
        refine ⟨rfl, insC c L, ?_, hD3, fun k hk => ?_, (hF2.weak).trans' (hf3.mono fun k hk _ => by simp at hk; simp [hk])⟩
        · rw [insC_E, hcx, Hnew.out]
        · rcases feet_insC hk with h | h
          · right
            have := hcn k h
            have := hF2.size
            omega
          · exact .inl h

theorem lDoes_calls (db mb : Nat) (L : List Cel) (o : OpD) (w : World) (h : DirW w db mb L) (hw : wfD o) : Calls Try.prog 12 #[.pointer (some ⟨db, 0, none⟩), opdV o] w (doesPost db mb L o w) := by
  obtain ⟨k, s, t, sec, gr, fr, lo, on⟩ := o
  by_cases n0 : k = 0
  · subst n0; exact does_ad db mb L s t sec gr fr lo on w h hw
  by_cases n1 : k = 1
  · subst n1; exact does_rm db mb L s t sec gr fr lo on w h hw
  by_cases n2 : k = 2
  · subst n2; exact does_sw db mb L s t sec gr fr lo on w h hw
  by_cases n3 : k = 3
  · subst n3; exact does_cl db mb L s t sec gr fr lo on w h hw
  by_cases n4 : k = 4
  · subst n4; exact does_mg db mb L s t sec gr fr lo on w h hw
  by_cases n5 : k = 5
  · subst n5; exact does_wr db mb L s t sec gr fr lo on w h hw
  by_cases n6 : k = 6
  · subst n6; exact does_rz db mb L s t sec gr fr lo on w h hw
  exact does_ot db mb L k s t sec gr fr lo on w h n0 n1 n2 n3 n4 n5 n6 hw
end Go.Proofs.Ytiifmakhfpllnaa

namespace Go.Proofs.Ytiifmakhfpllnaa
open Go.RowKit Go.Maps

theorem oRight_calls (k : Int) (hk : k = 1 ∨ k = 2 ∨ k = 4) (w : World) : Calls Try.prog 84 #[.int .i64 k] w fun e w' => e = .returned (.bool true) ∧ w = w' := by
  rcases hk with rfl | rfl | rfl
  all_goals
    go_enter Try.func84, Try.ntmps84
    go_wp2
    go_ret
    exact ⟨rfl, rfl⟩
theorem oFits_calls (W n : Nat) (hk : W = 1 ∨ W = 2 ∨ W = 4) (hn : n < 256 ^ W) (w : World) : Calls Try.prog 85 #[.int .i64 (n : Int), .int .i64 (W : Int)] w fun e w' => e = .returned (.bool true) ∧ w = w' := by
  have h1 : (0 : Int) ≤ (n : Int) := by omega
  rcases hk with rfl | rfl | rfl
  · have h2 : n < 256 := hn
    have h3 : (n : Int) < 256 := by omega
    clear hn h2
    go_enter Try.func85, Try.ntmps85
    go_wp2
    go_ret
    exact ⟨rfl, rfl⟩
  · have h2 : n < 65536 := hn
    have h3 : (n : Int) < 65536 := by omega
    clear hn h2
    go_enter Try.func85, Try.ntmps85
    go_wp2
    go_ret
    exact ⟨rfl, rfl⟩
  · have h2 : n < 4294967296 := hn
    have h3 : (n : Int) < 4294967296 := by omega
    clear hn h2
    go_enter Try.func85, Try.ntmps85
    go_wp2
    go_ret
    exact ⟨rfl, rfl⟩
theorem byte_form (n m : Nat) : (n : Int) / 2 ^ (8 * m) % 256 = ((UInt8.ofNat (n / 256 ^ m)).toNat : Int) := by
  rw [ofNat_toNat, show (256 : Nat) ^ m = 2 ^ (8 * m) by rw [Nat.pow_mul]]
  simp
theorem take_map_flat {ns : List Nat} {W k : Nat} (h : k < ns.length) : (ns.take (k + 1)).flatMap (numL W) = (ns.take k).flatMap (numL W) ++ numL W (ns.getD k 0) := by
  have hg : ns[k] = ns.getD k 0 := by rw [List.getD_eq_getElem?_getD, List.getElem?_eq_getElem h]; rfl
  rw [List.take_succ_eq_append_getElem h, hg, List.flatMap_append]
  simp
theorem flat_num_len (W : Nat) : ∀ ns : List Nat, (ns.flatMap (numL W)).length = ns.length * W
  | [] => by simp
  | n :: ns => by rw [List.flatMap_cons, List.length_append, numL_length, flat_num_len W ns, List.length_cons, Nat.add_mul]; omega
set_option maxRecDepth 100000 in
set_option maxHeartbeats 1600000 in
theorem Put_calls (W : Nat) (hW : W = 1 ∨ W = 2 ∨ W = 4) (ns : List Nat) (hns : ∀ n ∈ ns, n < 256 ^ W) (base : Nat) (v : Value) (bs : List UInt8) (lb : Nat) (c : Nat) (w : World)
    (hown : w.ownsRow base 5 1 v bs.length (bs.flatMap byC)) (hm : bs.length + ns.length * 4 ≤ 10000000) (hb : base ≤ w.heap.size) (B : Blk w lb (ns.map fun (n : Nat) => Value.int .i64 (n : Int)) 3) (hlb : ∀ k, v.ownBlock = some k → lb ≠ k) :
    Calls Try.prog 48 #[v, .int .i64 (W : Int), .slice (some ⟨lb, 0, none⟩) ns.length c] w
      fun e w' => ∃ v', e = .returned (.tuple #[v', .bool true]) ∧ w'.ownsRow base 5 1 v' (bs ++ ns.flatMap (numL W)).length ((bs ++ ns.flatMap (numL W)).flatMap byC) ∧ Fr v.ownBlock.toList w w' ∧ ∀ x, v'.ownBlock = some x → v.ownBlock = some x ∨ w.heap.size ≤ x := by
  have hat : ∀ k, k < ns.length → (ns.map fun (n : Nat) => Value.int .i64 (n : Int))[k]? = some (.int .i64 ((ns.getD k 0 : Nat) : Int)) := fun k hk => by
    rw [List.getElem?_map, getD_some 0 hk]; rfl
  have hfit : ∀ k, k < ns.length → ns.getD k 0 < 256 ^ W := fun k hk => hns _ (by rw [List.getD_eq_getElem?_getD, List.getElem?_eq_getElem hk]; exact List.getElem_mem _)
  have hW4 : W ≤ 4 := by omega
  have lbt := B.lt
  have keyF := fun n h w => oFits_calls W n hW h w
  have keyR := fun w => oRight_calls (W : Int) (by omega) w
  go_enter Try.func48, Try.ntmps48
  go_wp2_with fail
  refine (keyR _).mono ?_
  rintro e w1 ⟨rfl, rfl⟩
  go_wp2_with fail
  go_loopw [19] (fun i wr => ∃ k : Nat, k ≤ ns.length ∧ i = .int .i64 k ∧ w = wr) (fun i _ => ns.length - (intOf i).toNat)
  case atStart => exact ⟨0, Nat.zero_le _, rfl, rfl⟩
  case round =>
    obtain ⟨k, hk, rfl, rfl⟩ := hrel
    by_cases hlt : k < ns.length
    · have c1 := B.cell k
      rw [hat k hlt] at c1
      have hf := hfit k hlt
      generalize ns.getD k 0 = n at *
      go_wp2_with fail
      refine (keyF n hf _).mono ?_
      rintro e w1 ⟨rfl, rfl⟩
      go_wp2
      go_roundw
      case rel => exact ⟨k + 1, by omega, by go_num, trivial⟩
      case measure => simp [intOf]; omega
    · clear keyF keyR hfit
      go_wp2
      go_loopw [0, 31] (fun u i w2 => ∃ k : Nat, k ≤ ns.length ∧ i = .int .i64 k ∧ w2.ownsRow base 5 1 u (bs ++ (ns.take k).flatMap (numL W)).length ((bs ++ (ns.take k).flatMap (numL W)).flatMap byC) ∧ (∀ x, u.ownBlock = some x → v.ownBlock = some x ∨ w.heap.size ≤ x) ∧ Fr v.ownBlock.toList w w2) (fun _ i _ => ns.length - (intOf i).toNat)
      case atStart => exact ⟨0, Nat.zero_le _, rfl, by simpa using hown, fun x hx => .inl hx, Fr.refl _ _⟩
      case round =>
        obtain ⟨k, hk, rfl, hown1, hob1, hF1⟩ := hrel
        by_cases hlt : k < ns.length
        · have B1 := B.fr hF1 (by intro hx; cases hv : v.ownBlock with | none => simp [hv] at hx | some x => simp [hv] at hx; exact hlb x hv hx)
          have c1 := B1.cell k
          rw [hat k hlt] at c1
          have l1 := B1.lt
          have Hst := hidIt (take_map_flat (W := W) hlt)
          have hlen := flat_num_len W (ns.take k)
          generalize ns.getD k 0 = n at *
          go_wp2
          go_loopw [0, 36] (fun u i w2 => ∃ j : Nat, j ≤ W ∧ i = .int .i64 j ∧ w2.ownsRow base 5 1 u (bs ++ (ns.take k).flatMap (numL W) ++ (numL W n).take j).length ((bs ++ (ns.take k).flatMap (numL W) ++ (numL W n).take j).flatMap byC) ∧ (∀ x, u.ownBlock = some x → v.ownBlock = some x ∨ w.heap.size ≤ x) ∧ Fr v.ownBlock.toList w w2) (fun _ i _ => W - (intOf i).toNat)
          case atStart => exact ⟨0, Nat.zero_le _, rfl, by simpa using hown1, hob1, hF1⟩
          case round =>
            clear hown1 hob1 hF1 B1 c1 l1
            obtain ⟨j, hj, rfl, hown2, hob2, hF2⟩ := hrel
            by_cases hjl : j < W
            · have Hb := hidIt (byte_form n (W - 1 - j))
              have Ht := hidIt (numL_take (n := n) hjl)
              have hsz := hF2.size
              have hnl := numL_length W n
              have hjt : ((numL W n).take j).length = j := by simp [hnl]; omega
              have Hlt : (bs ++ (ns.take k).flatMap (numL W) ++ (numL W n).take j).length ≤ 4294967296 := by
                have : (ns.take k).length = k := by simp; omega
                rw [this] at hlen
                have : k * W ≤ k * 4 := Nat.mul_le_mul_left _ hW4
                simp only [List.length_append, hlen, hjt]
                omega
              generalize ((ns.take k).flatMap (numL W)) = pre at *
              go_wp2_with (at_builtin; refine Hid.out ?_)
              refine hidIt ?_
              refine wpList_append1 46 5 (.int .u8 0) 1 1 Try.underlying46 infoY rfl (by decide) (by decide) rfl _ _ rfl base _ _ _ rfl (hown2.alloc _) [_] rfl (by intro u hu; simp at hu; subst hu; rfl) wr.heap.size rfl (Blk.new _ _ _) Hlt (by simp; omega) ?_
              intro v2 w2 hown3 hgrow3 hloc3
              rw [Hb.out] at hown3
              have e1 : (bs ++ pre ++ (numL W n).take (j + 1)).flatMap byC = (bs ++ pre ++ (numL W n).take j).flatMap byC ++ [Value.int .u8 ((UInt8.ofNat (n / 256 ^ (W - 1 - j))).toNat : Int)] := by rw [Ht.out]; simp
              have e2 : (bs ++ pre ++ (numL W n).take (j + 1)).length = (bs ++ pre ++ (numL W n).take j).length + 1 := by rw [Ht.out]; simp; omega
              have hF3 : Fr v.ownBlock.toList w w2 := (hF2.alloc _).grown hgrow3 (fun x hx => by
                rcases hob2 x hx with h | h
                · exact .inl (by simp [h])
                · exact .inr h)
              have hob3 : ∀ x, v2.ownBlock = some x → v.ownBlock = some x ∨ w.heap.size ≤ x := fun x hx => by
                rcases hloc3 with h | h
                · rw [h] at hx; exact hob2 x hx
                · rw [h] at hx; cases hx; right; simp; omega
              clear hown2 Hb Ht
              go_wp2
              go_roundw
              case rel => exact ⟨j + 1, by omega, by go_num, by rw [e1, e2]; exact hown3, hob3, hF3⟩
              case measure => simp [intOf]; omega
            · have hje : j = W := by omega
              subst hje
              have hnl := numL_length j n
              rw [show (numL j n).take j = numL j n from List.take_of_length_le (by omega)] at hown2
              go_wp2
              go_roundw
              case rel => exact ⟨k + 1, by omega, by go_num, by rw [Hst.out, ← List.append_assoc]; exact hown2, hob2, hF2⟩
              case measure => simp [intOf]; omega
        · have hke : k = ns.length := by omega
          subst hke
          rw [List.take_length] at hown1
          go_wp2
          go_ret2
          exact ⟨_, rfl, hown1, hF1, hob1⟩
end Go.Proofs.Ytiifmakhfpllnaa

namespace Go.Proofs.Ytiifmakhfpllnaa
open Go.RowKit
/-- where 's[l:]' begins -/
def slAddr (a : Option Addr) (cap l k : Nat) : Option Addr := if cap = l then a else a.map (·.add (l * k))
theorem flatk_drop {α : Type} (f : α → List Value) (k : Nat) (hf : ∀ x, (f x).length = k) : ∀ (l : List α) (i : Nat), (l.flatMap f).drop (i * k) = (l.drop i).flatMap f
  | [], i => by simp
  | x :: l, 0 => by simp
  | x :: l, i + 1 => by
    rw [List.flatMap_cons, List.drop_succ_cons, ← flatk_drop f k hf l i]
    have : (i + 1) * k = (f x).length + i * k := by rw [hf, Nat.add_one_mul]; omega
    rw [this, List.drop_length_add_append]
theorem flatk_take {α : Type} (f : α → List Value) (k : Nat) (hf : ∀ x, (f x).length = k) : ∀ (l : List α) (i : Nat), (l.flatMap f).take (i * k) = (l.take i).flatMap f
  | [], i => by simp
  | x :: l, 0 => by simp
  | x :: l, i + 1 => by
    rw [List.flatMap_cons, List.take_succ_cons, List.flatMap_cons, ← flatk_take f k hf l i]
    have : (i + 1) * k = (f x).length + i * k := by rw [hf, Nat.add_one_mul]; omega
    rw [this, List.take_length_add_append]
theorem SlF.from {α : Type} {f : α → List Value} {w : World} {a : Option Addr} {n cap : Nat} {l : List α} (k : Nat) (hf : ∀ x, (f x).length = k) (h : SlF f w (.slice a n cap) l) {m : Nat} (hm : m ≤ n) :
    SlF f w (.slice (slAddr a cap m k) (n - m) (cap - m)) (l.drop m) := by
  obtain ⟨a', cap', hv, h1, h2, hc⟩ := h
  cases hv
  refine ⟨_, cap - m, by rw [List.length_drop], by rw [List.length_drop]; omega, by omega, ?_⟩
  rw [← flatk_drop f k hf]
  rcases hc with he | ⟨b, off, rfl, hb, hc⟩
  · exact .inl (by rw [he]; simp)
  · by_cases hcm : cap = m
    · refine .inl ?_
      rw [flatk_drop f k hf, List.drop_eq_nil_of_le (by omega)]
      rfl
    · refine .inr ⟨b, off + m * k, ?_, hb, fun j u hu => ?_⟩
      · simp [slAddr, hcm, Addr.add]
      · rw [List.getElem?_drop] at hu
        rw [Nat.add_assoc]
        exact hc _ u hu
theorem SlF.to {α : Type} {f : α → List Value} {w : World} {a : Option Addr} {n cap : Nat} {l : List α} (k : Nat) (hf : ∀ x, (f x).length = k) (h : SlF f w (.slice a n cap) l) {m : Nat} (hm : m ≤ n) :
    SlF f w (.slice a m cap) (l.take m) := by
  obtain ⟨a', cap', hv, h1, h2, hc⟩ := h
  cases hv
  refine ⟨_, cap, by rw [List.length_take, Nat.min_eq_left hm], by rw [List.length_take]; omega, by omega, ?_⟩
  rw [← flatk_take f k hf]
  rcases hc with he | ⟨b, off, rfl, hb, hc⟩
  · exact .inl (by rw [he]; simp)
  · refine .inr ⟨b, off, rfl, hb, fun j u hu => ?_⟩
    rw [List.getElem?_take] at hu
    split at hu
    · exact hc _ u hu
    · cases hu
section
variable {P : Program} {w : World} (t e : TypeId) (k : Nat) (ht : P.underlying t = some (.slice e)) (hk : (sizeOf e).run P w = .ok k w)
include ht hk
theorem cut_from (a : Option Addr) (n cap l : Nat) (h : l ≤ n) :
    (Instr.sliceAt t (.slice a n cap) (some (.int .i64 (l : Int))) none none).run P w = .ok (.slice (slAddr a cap l k) (n - l) (cap - l)) w := by
  have he : P.elem t = e := by simp [Program.elem, ht]
  have ht' : P.underlying t = some (.slice (P.elem t)) := by rw [he, ht]
  rw [run_sliceAt_slice (h := ht'), run_slice_l (ht := ht') (h0 := by omega) (h1 := by omega), he, hk]
  simp [sliced, slAddr]
theorem cut_to (a : Option Addr) (n cap h : Nat) (h2 : h ≤ cap) :
    (Instr.sliceAt t (.slice a n cap) none (some (.int .i64 (h : Int))) none).run P w = .ok (.slice a h cap) w := by
  have he : P.elem t = e := by simp [Program.elem, ht]
  have ht' : P.underlying t = some (.slice (P.elem t)) := by rw [he, ht]
  rw [run_sliceAt_slice (h := ht'), run_slice_h (ht := ht') (h0 := by omega) (h2 := by omega), he, hk]
  cases a <;> simp [sliced, Addr.add_zero']
theorem cut_lh (a : Option Addr) (n cap l h : Nat) (h1 : l ≤ h) (h2 : h ≤ cap) :
    (Instr.sliceAt t (.slice a n cap) (some (.int .i64 (l : Int))) (some (.int .i64 (h : Int))) none).run P w = .ok (.slice (slAddr a cap l k) (h - l) (cap - l)) w := by
  have he : P.elem t = e := by simp [Program.elem, ht]
  have ht' : P.underlying t = some (.slice (P.elem t)) := by rw [he, ht]
  rw [run_sliceAt_slice (h := ht'), run_slice_lh (ht := ht') (h0 := by omega) (h1 := by omega) (h2 := by omega), he, hk]
  simp [sliced, slAddr]
end
theorem SlF.mid {α : Type} {f : α → List Value} {w : World} {a : Option Addr} {n cap : Nat} {l : List α} (k : Nat) (hf : ∀ x, (f x).length = k) (h : SlF f w (.slice a n cap) l) {m j : Nat} (hj : j ≤ n) (hm : m ≤ j) :
    SlF f w (.slice (slAddr a cap m k) (j - m) (cap - m)) ((l.take j).drop m) := (h.to k hf hj).from k hf hm
end Go.Proofs.Ytiifmakhfpllnaa
