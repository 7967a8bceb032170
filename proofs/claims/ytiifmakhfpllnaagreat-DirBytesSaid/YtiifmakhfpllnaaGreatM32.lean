/-
  A directory's calls, in plain Lean.
-/
import Derived.Test.YtiifmakhfpllnaaGreatM31
import Derived.Test.YtiifmakhfpllnaaGreatM30
import Derived.Test.YtiifmakhfpllnaaGreatM09
namespace Go.Proofs.YtiifmakhfpllnaaGreat
open Go.RowKit Go.Maps

def newE (o : OpD) : Ent := ⟨o.name, true, true, (doS o.gr.toNat (o.sec.toNat, List.replicate (gran o.sec.toNat o.gr.toNat) false) (0, o.fr, o.lo)).1.1, o.gr.toNat, (doS o.gr.toNat (o.sec.toNat, List.replicate (gran o.sec.toNat o.gr.toNat) false) (0, o.fr, o.lo)).1.2⟩
def allE (E : List Ent) (f : Ent → Ent) : List Ent := chE E (fun _ => true) f
def codeE (E : List Ent) (s : List UInt8) : Int := match findE E s with
  | none => 112
  | some _ => 0
def addO (E : List Ent) (o : OpD) : List Ent × Int :=
  if okNew o.sec o.gr = false ∨ okName o.name = false then (E, 1) else if findE E o.name ≠ none ∨ 8 ≤ E.length then (E, 111) else (insE (newE o) E, 0)
def mgO (E : List Ent) (s t : List UInt8) : List Ent × Int := match findE E s, findE E t with
  | some c, some d => (oneE E s (mgE d), if c.S = d.S then 0 else 1)
  | _, _ => (E, 112)
def runD (E : List Ent) (o : OpD) : List Ent × Int :=
  if o.k = 0 then addO E o
  else if o.k = 1 then (rmE E o.name, codeE E o.name)
  else if o.k = 2 then (oneE E o.name (onE o.on), codeE E o.name)
  else if o.k = 3 then (oneE E o.name clrE, codeE E o.name)
  else if o.k = 4 then mgO E o.name o.other
  else if o.k = 5 then (allE E (wrE o.fr o.lo), 0)
  else if o.k = 6 then (if okSec o.sec = true then (allE E (rzE o.sec), 0) else (E, 1))
  else (E, 0)
def runDs (E : List Ent) (ops : List OpD) : List Ent := ops.foldl (fun E o => (runD E o).1) E
theorem codeE_map (L : List Cel) (s : List UInt8) : codeE (L.map (·.x)) s = dn (findC L s) := by
  unfold codeE
  rw [findC_E]
  cases findC L s <;> rfl
theorem oneC_map (L : List Cel) (s : List UInt8) (f : Ent → Ent) : (oneC L s f).map (·.x) = oneE (L.map (·.x)) s f := chC_E L _ f
theorem allC_map (L : List Cel) (f : Ent → Ent) : (allC L f).map (·.x) = allE (L.map (·.x)) f := chC_E L _ f
theorem findC_isNone (L : List Cel) (s : List UInt8) : findE (L.map (·.x)) s ≠ none ↔ findC L s ≠ none := by
  rw [findC_E]
  cases findC L s <;> simp
/-- an Ent's well-formedness -/
structure OkE (x : Ent) : Prop where
  name : okName x.name = true
  size : x.S ≤ 4096
  pow : pow2 x.g = true
  len : x.l.length = gran x.S x.g
structure OkD (E : List Ent) : Prop where
  all : ∀ x ∈ E, OkE x
  few : E.length ≤ 8
  rising : E.Pairwise fun a b => a.name < b.name
theorem DirW.ok {w : World} {db mb : Nat} {L : List Cel} (h : DirW w db mb L) : OkD (L.map (·.x)) := by
  refine ⟨fun x hx => ?_, by rw [List.length_map]; exact h.few, by rw [List.pairwise_map]; exact h.rising⟩
  obtain ⟨c, hc, rfl⟩ := List.mem_map.1 hx
  have hE := h.ents c hc
  exact ⟨h.names c hc, hE.bits.size, hE.pow, hE.bits.len⟩
theorem insE_filter {p : List UInt8 → Bool} : ∀ {E : List Ent}, E.Pairwise (fun a b => a.name < b.name) → ∀ {e : Ent}, e ∈ E → p e.name = false → insE e (E.filter fun d => p d.name) = E.filter fun d => p d.name || decide (d.name = e.name)
  | [], _, e, he, _ => by cases he
  | d :: l, h, e, he, hp => by
    have h' := List.pairwise_cons.1 h
    rcases List.mem_cons.1 he with rfl | hl
    · have h1 : l.filter (fun d => p d.name || decide (d.name = e.name)) = l.filter fun d => p d.name := List.filter_congr fun x hx => by
        have : ¬ x.name = e.name := fun h2 => by have := h'.1 x hx; rw [h2] at this; exact List.lt_irrefl _ this
        simp [this]
      rw [List.filter_cons, if_neg (by simp [hp]), List.filter_cons, if_pos (by simp), h1]
      have h2 : ∀ x ∈ l.filter (fun d => p d.name), e.name < x.name := fun x hx => h'.1 x (List.mem_filter.1 hx).1
      cases hf : l.filter (fun d => p d.name) with
      | nil => rfl
      | cons x r =>
        have := h2 x (by rw [hf]; exact List.mem_cons_self)
        simp only [insE, if_pos this]
    · have hlt := h'.1 e hl
      have hne : ¬ d.name = e.name := fun h2 => by rw [h2] at hlt; exact List.lt_irrefl _ hlt
      have hng : ¬ e.name < d.name := fun h2 => List.lt_irrefl _ (List.lt_trans h2 hlt)
      rw [List.filter_cons, List.filter_cons]
      cases hd : p d.name with
      | true =>
        rw [if_pos rfl, if_pos (by simp)]
        simp only [insE, if_neg hng]
        rw [insE_filter h'.2 hl hp]
      | false =>
        rw [if_neg (by simp), if_neg (by simp [hne])]
        exact insE_filter h'.2 hl hp
theorem insE_len (e : Ent) : ∀ E : List Ent, (insE e E).length = E.length + 1
  | [] => rfl
  | d :: l => by
    simp only [insE]
    split
    · rfl
    · simp [insE_len e l]
theorem rising_len {E : List Ent} (h : E.Pairwise (fun a b => a.name < b.name)) {e : Ent} (he : e ∈ E) {p : List UInt8 → Bool} (hp : p e.name = false) : (E.filter fun d => p d.name).length < E.length := by
  have h1 := congrArg List.length (insE_filter h he hp)
  rw [insE_len] at h1
  have := List.length_filter_le (fun d => p d.name || decide (d.name = e.name)) E
  omega
end Go.Proofs.YtiifmakhfpllnaaGreat

namespace Go.Proofs.YtiifmakhfpllnaaGreat
open Go.RowKit Go.Maps
attribute [local go_sem] mapAt_alloc mapAt_setCell mapAt_drew mapAt_drewN cells_str store_str

/-- what a call leaves, and answers -/
def doesPost (db mb : Nat) (L : List Cel) (o : OpD) (w : World) (e : Ending) (w' : World) : Prop :=
  ∃ L', e = .returned (.int .i64 (runD (L.map (·.x)) o).2) ∧ L'.map (·.x) = (runD (L.map (·.x)) o).1 ∧ DirW w' db mb L' ∧ (∀ k ∈ feet L', k ∈ feet L ∨ w.heap.size ≤ k) ∧ Fr (mb :: feet L) w w'
theorem feet_oneC (L : List Cel) (s : List UInt8) (f : Ent → Ent) : feet (oneC L s f) = feet L := feet_chC L _ f
theorem feet_allC (L : List Cel) (f : Ent → Ent) : feet (allC L f) = feet L := feet_chC L _ f
theorem feet_insC {L : List Cel} {c : Cel} {k : Nat} (h : k ∈ feet (insC c L)) : k ∈ c.feet ∨ k ∈ feet L := by
  obtain ⟨d, hd, hk⟩ := mem_feet.1 h
  rcases mem_insC.1 hd with rfl | hd
  · exact .inl hk
  · exact .inr (mem_feet.2 ⟨d, hd, hk⟩)
theorem dMerge_calls (db mb : Nat) (L : List Cel) (s t : List UInt8) (w : World) (h : DirW w db mb L) (hs : s.length ≤ maxLen) (ht : t.length ≤ maxLen) :
    Calls Tryz.prog 46 #[.pointer (some ⟨db, 0, none⟩), strL s, strL t] w fun e w' => e = .returned (.int .i64 (mgO (L.map (·.x)) s t).2) ∧ ∃ L', L'.map (·.x) = (mgO (L.map (·.x)) s t).1 ∧ DirW w' db mb L' ∧ feet L' = feet L ∧ Fr (feet L) w w' := by
  unfold mgO
  rw [findC_E, findC_E]
  cases h1 : findC L s with
  | none =>
    refine (dMerge_none db mb L s t w h hs ht (.inl h1)).mono ?_
    rintro e w1 ⟨rfl, hf⟩
    first | exact ⟨rfl, L, rfl, h.fr0 hf, rfl, hf.weak⟩ | exact ⟨L, rfl, rfl, h.fr0 hf, rfl, hf.weak⟩
  | some c =>
    cases h2 : findC L t with
    | none =>
      refine (dMerge_none db mb L s t w h hs ht (.inr h2)).mono ?_
      rintro e w1 ⟨rfl, hf⟩
      first | exact ⟨rfl, L, rfl, h.fr0 hf, rfl, hf.weak⟩ | exact ⟨L, rfl, rfl, h.fr0 hf, rfl, hf.weak⟩
    | some d =>
      refine (dMerge_some db mb L s t c d w h hs ht h1 h2).mono ?_
      rintro e w1 ⟨rfl, hD, hf⟩
      exact ⟨rfl, _, oneC_map _ _ _, hD, feet_oneC _ _ _, hf.mono fun k hk _ => mem_feet.2 ⟨c, (findC_mem h1).1, by simp at hk; simp [Cel.feet]; omega⟩⟩

set_option maxRecDepth 100000 in
set_option maxHeartbeats 800000 in
theorem does_rm (db mb : Nat) (L : List Cel) (s t : List UInt8) (sec gr fr lo : Int) (on : Bool) (w : World) (h : DirW w db mb L) (hw : wfD ⟨1, s, t, sec, gr, fr, lo, on⟩) :
    Calls Tryz.prog 11 #[.pointer (some ⟨db, 0, none⟩), opdV ⟨1, s, t, sec, gr, fr, lo, on⟩] w (doesPost db mb L ⟨1, s, t, sec, gr, fr, lo, on⟩ w) := by
  have hk : runD (L.map (·.x)) ⟨1, s, t, sec, gr, fr, lo, on⟩ = (rmE (L.map (·.x)) s, codeE (L.map (·.x)) s) := rfl
  have hF0 := (Fr.refl [] w).alloc (.cells #[.int .i64 1, strL s, strL t, .int .i64 sec, .int .i64 gr, .int .i64 fr, .int .i64 lo, .bool on] 36)
  have B := Blk.new w [.int .i64 1, strL s, strL t, .int .i64 sec, .int .i64 gr, .int .i64 fr, .int .i64 lo, .bool on] 36
  have h1 := h.fr0 hF0
  have cB := B.cell
  obtain ⟨_, w1, w2, w3, w4, w5, w6⟩ := hw
  simp only at w1 w2 w3 w4 w5 w6
  unfold doesPost
  rw [hk]
  unfold opdV opdC
  go_enter Tryz.func11, Tryz.ntmps11
  go_wp2_with fail
  refine (Remove_calls db mb L s _ h1 w5).mono ?_
  rintro e w1 ⟨rfl, hD, hf⟩
  go_wp2
  go_ret
  exact ⟨_, ret_int (codeE_map L s).symm, rmC_E L s, hD, fun k hk => .inl ((feet_rm L s).subset hk), (hF0.weak).trans' (hf.mono fun k hk _ => by simp at hk; simp [hk])⟩

set_option maxRecDepth 100000 in
set_option maxHeartbeats 800000 in
theorem does_sw (db mb : Nat) (L : List Cel) (s t : List UInt8) (sec gr fr lo : Int) (on : Bool) (w : World) (h : DirW w db mb L) (hw : wfD ⟨2, s, t, sec, gr, fr, lo, on⟩) :
    Calls Tryz.prog 11 #[.pointer (some ⟨db, 0, none⟩), opdV ⟨2, s, t, sec, gr, fr, lo, on⟩] w (doesPost db mb L ⟨2, s, t, sec, gr, fr, lo, on⟩ w) := by
  have hk : runD (L.map (·.x)) ⟨2, s, t, sec, gr, fr, lo, on⟩ = (oneE (L.map (·.x)) s (onE on), codeE (L.map (·.x)) s) := rfl
  have hF0 := (Fr.refl [] w).alloc (.cells #[.int .i64 2, strL s, strL t, .int .i64 sec, .int .i64 gr, .int .i64 fr, .int .i64 lo, .bool on] 36)
  have B := Blk.new w [.int .i64 2, strL s, strL t, .int .i64 sec, .int .i64 gr, .int .i64 fr, .int .i64 lo, .bool on] 36
  have h1 := h.fr0 hF0
  have cB := B.cell
  obtain ⟨_, w1, w2, w3, w4, w5, w6⟩ := hw
  simp only at w1 w2 w3 w4 w5 w6
  unfold doesPost
  rw [hk]
  unfold opdV opdC
  go_enter Tryz.func11, Tryz.ntmps11
  go_wp2_with fail
  refine (Switch_calls db mb L s on _ h1 w5).mono ?_
  rintro e w1 ⟨rfl, hD, hf⟩
  go_wp2
  go_ret
  exact ⟨_, ret_int (codeE_map L s).symm, oneC_map _ _ _, hD, fun k hk => .inl (by rwa [feet_oneC] at hk), (hF0.weak).trans' (hf.mono fun k hk _ => List.mem_cons_of_mem _ hk)⟩

set_option maxRecDepth 100000 in
set_option maxHeartbeats 800000 in
theorem does_cl (db mb : Nat) (L : List Cel) (s t : List UInt8) (sec gr fr lo : Int) (on : Bool) (w : World) (h : DirW w db mb L) (hw : wfD ⟨3, s, t, sec, gr, fr, lo, on⟩) :
    Calls Tryz.prog 11 #[.pointer (some ⟨db, 0, none⟩), opdV ⟨3, s, t, sec, gr, fr, lo, on⟩] w (doesPost db mb L ⟨3, s, t, sec, gr, fr, lo, on⟩ w) := by
  have hk : runD (L.map (·.x)) ⟨3, s, t, sec, gr, fr, lo, on⟩ = (oneE (L.map (·.x)) s clrE, codeE (L.map (·.x)) s) := rfl
  have hF0 := (Fr.refl [] w).alloc (.cells #[.int .i64 3, strL s, strL t, .int .i64 sec, .int .i64 gr, .int .i64 fr, .int .i64 lo, .bool on] 36)
  have B := Blk.new w [.int .i64 3, strL s, strL t, .int .i64 sec, .int .i64 gr, .int .i64 fr, .int .i64 lo, .bool on] 36
  have h1 := h.fr0 hF0
  have cB := B.cell
  obtain ⟨_, w1, w2, w3, w4, w5, w6⟩ := hw
  simp only at w1 w2 w3 w4 w5 w6
  unfold doesPost
  rw [hk]
  unfold opdV opdC
  go_enter Tryz.func11, Tryz.ntmps11
  go_wp2_with fail
  refine (dClear_calls db mb L s _ h1 w5).mono ?_
  rintro e w1 ⟨rfl, hD, hf⟩
  go_wp2
  go_ret
  exact ⟨_, ret_int (codeE_map L s).symm, oneC_map _ _ _, hD, fun k hk => .inl (by rwa [feet_oneC] at hk), (hF0.weak).trans' (hf.mono fun k hk _ => List.mem_cons_of_mem _ hk)⟩

set_option maxRecDepth 100000 in
set_option maxHeartbeats 800000 in
theorem does_mg (db mb : Nat) (L : List Cel) (s t : List UInt8) (sec gr fr lo : Int) (on : Bool) (w : World) (h : DirW w db mb L) (hw : wfD ⟨4, s, t, sec, gr, fr, lo, on⟩) :
    Calls Tryz.prog 11 #[.pointer (some ⟨db, 0, none⟩), opdV ⟨4, s, t, sec, gr, fr, lo, on⟩] w (doesPost db mb L ⟨4, s, t, sec, gr, fr, lo, on⟩ w) := by
  have hk : runD (L.map (·.x)) ⟨4, s, t, sec, gr, fr, lo, on⟩ = mgO (L.map (·.x)) s t := rfl
  have hF0 := (Fr.refl [] w).alloc (.cells #[.int .i64 4, strL s, strL t, .int .i64 sec, .int .i64 gr, .int .i64 fr, .int .i64 lo, .bool on] 36)
  have B := Blk.new w [.int .i64 4, strL s, strL t, .int .i64 sec, .int .i64 gr, .int .i64 fr, .int .i64 lo, .bool on] 36
  have h1 := h.fr0 hF0
  have cB := B.cell
  obtain ⟨_, w1, w2, w3, w4, w5, w6⟩ := hw
  simp only at w1 w2 w3 w4 w5 w6
  unfold doesPost
  rw [hk]
  unfold opdV opdC
  go_enter Tryz.func11, Tryz.ntmps11
  go_wp2_with fail
  refine (dMerge_calls db mb L s t _ h1 w5 w6).mono ?_
  rintro e w1 ⟨rfl, L2, e2, hD, e3, hf⟩
  go_wp2
  go_ret
  exact ⟨L2, rfl, e2, hD, fun k hk => .inl (by rwa [e3] at hk), (hF0.weak).trans' (hf.mono fun k hk _ => List.mem_cons_of_mem _ hk)⟩

set_option maxRecDepth 100000 in
set_option maxHeartbeats 800000 in
theorem does_wr (db mb : Nat) (L : List Cel) (s t : List UInt8) (sec gr fr lo : Int) (on : Bool) (w : World) (h : DirW w db mb L) (hw : wfD ⟨5, s, t, sec, gr, fr, lo, on⟩) :
    Calls Tryz.prog 11 #[.pointer (some ⟨db, 0, none⟩), opdV ⟨5, s, t, sec, gr, fr, lo, on⟩] w (doesPost db mb L ⟨5, s, t, sec, gr, fr, lo, on⟩ w) := by
  have hk : runD (L.map (·.x)) ⟨5, s, t, sec, gr, fr, lo, on⟩ = (allE (L.map (·.x)) (wrE fr lo), 0) := rfl
  have hF0 := (Fr.refl [] w).alloc (.cells #[.int .i64 5, strL s, strL t, .int .i64 sec, .int .i64 gr, .int .i64 fr, .int .i64 lo, .bool on] 36)
  have B := Blk.new w [.int .i64 5, strL s, strL t, .int .i64 sec, .int .i64 gr, .int .i64 fr, .int .i64 lo, .bool on] 36
  have h1 := h.fr0 hF0
  have cB := B.cell
  obtain ⟨_, w1, w2, w3, w4, w5, w6⟩ := hw
  simp only at w1 w2 w3 w4 w5 w6
  unfold doesPost
  rw [hk]
  unfold opdV opdC
  go_enter Tryz.func11, Tryz.ntmps11
  go_wp2_with fail
  refine (dWrite_calls db mb L fr lo _ h1 w4).mono ?_
  rintro e w1 ⟨rfl, hD, hf⟩
  go_wp2
  go_ret
  exact ⟨_, rfl, allC_map _ _, hD, fun k hk => .inl (by rwa [feet_allC] at hk), (hF0.weak).trans' (hf.mono fun k hk _ => List.mem_cons_of_mem _ hk)⟩

set_option maxRecDepth 100000 in
set_option maxHeartbeats 800000 in
theorem does_rz (db mb : Nat) (L : List Cel) (s t : List UInt8) (sec gr fr lo : Int) (on : Bool) (w : World) (h : DirW w db mb L) (hw : wfD ⟨6, s, t, sec, gr, fr, lo, on⟩) :
    Calls Tryz.prog 11 #[.pointer (some ⟨db, 0, none⟩), opdV ⟨6, s, t, sec, gr, fr, lo, on⟩] w (doesPost db mb L ⟨6, s, t, sec, gr, fr, lo, on⟩ w) := by
  have hk : runD (L.map (·.x)) ⟨6, s, t, sec, gr, fr, lo, on⟩ = (if okSec sec = true then (allE (L.map (·.x)) (rzE sec), 0) else (L.map (·.x), 1)) := rfl
  have hF0 := (Fr.refl [] w).alloc (.cells #[.int .i64 6, strL s, strL t, .int .i64 sec, .int .i64 gr, .int .i64 fr, .int .i64 lo, .bool on] 36)
  have B := Blk.new w [.int .i64 6, strL s, strL t, .int .i64 sec, .int .i64 gr, .int .i64 fr, .int .i64 lo, .bool on] 36
  have h1 := h.fr0 hF0
  have cB := B.cell
  obtain ⟨_, w1, w2, w3, w4, w5, w6⟩ := hw
  simp only at w1 w2 w3 w4 w5 w6
  unfold doesPost
  rw [hk]
  unfold opdV opdC
  cases hs : okSec sec with
  | true =>
    rw [if_pos rfl]
    go_enter Tryz.func11, Tryz.ntmps11
    go_wp2_with fail
    refine (dResize_yes db mb L sec _ h1 hs).mono ?_
    rintro e w1 ⟨rfl, hD, hf⟩
    go_wp2
    go_ret
    exact ⟨_, rfl, allC_map _ _, hD, fun k hk => .inl (by rwa [feet_allC] at hk), (hF0.weak).trans' (hf.mono fun k hk _ => List.mem_cons_of_mem _ hk)⟩
  | false =>
    rw [if_neg (by simp)]
    go_enter Tryz.func11, Tryz.ntmps11
    go_wp2_with fail
    refine (dResize_no db sec _ hs).mono ?_
    rintro e w1 ⟨rfl, hf⟩
    go_wp2
    go_ret
    exact ⟨L, rfl, rfl, h1.fr0 hf, fun k hk => .inl hk, (hF0.trans0 hf).weak⟩

set_option maxRecDepth 100000 in
set_option maxHeartbeats 800000 in
theorem does_ot (db mb : Nat) (L : List Cel) (k : Int) (s t : List UInt8) (sec gr fr lo : Int) (on : Bool) (w : World) (h : DirW w db mb L) (n0 : ¬ k = 0) (n1 : ¬ k = 1) (n2 : ¬ k = 2) (n3 : ¬ k = 3) (n4 : ¬ k = 4) (n5 : ¬ k = 5) (n6 : ¬ k = 6) (hw : wfD ⟨k, s, t, sec, gr, fr, lo, on⟩) :
    Calls Tryz.prog 11 #[.pointer (some ⟨db, 0, none⟩), opdV ⟨k, s, t, sec, gr, fr, lo, on⟩] w (doesPost db mb L ⟨k, s, t, sec, gr, fr, lo, on⟩ w) := by
  have hk : runD (L.map (·.x)) ⟨k, s, t, sec, gr, fr, lo, on⟩ = (L.map (·.x), 0) := by simp [runD, n0, n1, n2, n3, n4, n5, n6]
  have hF0 := (Fr.refl [] w).alloc (.cells #[.int .i64 k, strL s, strL t, .int .i64 sec, .int .i64 gr, .int .i64 fr, .int .i64 lo, .bool on] 36)
  have B := Blk.new w [.int .i64 k, strL s, strL t, .int .i64 sec, .int .i64 gr, .int .i64 fr, .int .i64 lo, .bool on] 36
  have h1 := h.fr0 hF0
  have cB := B.cell
  obtain ⟨_, w1, w2, w3, w4, w5, w6⟩ := hw
  simp only at w1 w2 w3 w4 w5 w6
  unfold doesPost
  rw [hk]
  unfold opdV opdC
  clear hk
  have m0 : (k == 0) = false := by simpa using n0
  have m1 : (k == 1) = false := by simpa using n1
  have m2 : (k == 2) = false := by simpa using n2
  have m3 : (k == 3) = false := by simpa using n3
  have m4 : (k == 4) = false := by simpa using n4
  have m5 : (k == 5) = false := by simpa using n5
  have m6 : (k == 6) = false := by simpa using n6
  clear n0 n1 n2 n3 n4 n5 n6
  go_enter Tryz.func11, Tryz.ntmps11
  go_wp2
  go_ret
  first | exact ⟨rfl, L, rfl, h1, fun k hk => .inl hk, hF0.weak⟩ | exact ⟨L, rfl, rfl, h1, fun k hk => .inl hk, hF0.weak⟩

theorem addO_arg {E : List Ent} {o : OpD} (h : okNew o.sec o.gr = false ∨ okName o.name = false) : addO E o = (E, 1) := if_pos h
theorem addO_there {E : List Ent} {o : OpD} (h : okNew o.sec o.gr = true) (h2 : okName o.name = true) (h3 : findE E o.name ≠ none ∨ 8 ≤ E.length) : addO E o = (E, 111) := by
  unfold addO
  rw [if_neg (by rw [h, h2]; simp), if_pos h3]
theorem addO_yes {E : List Ent} {o : OpD} (h : okNew o.sec o.gr = true) (h2 : okName o.name = true) (h3 : ¬ (findE E o.name ≠ none ∨ 8 ≤ E.length)) : addO E o = (insE (newE o) E, 0) := by
  unfold addO
  rw [if_neg (by rw [h, h2]; simp), if_neg h3]

set_option maxRecDepth 100000 in
set_option maxHeartbeats 800000 in
theorem does_ad (db mb : Nat) (L : List Cel) (s t : List UInt8) (sec gr fr lo : Int) (on : Bool) (w : World) (h : DirW w db mb L) (hw : wfD ⟨0, s, t, sec, gr, fr, lo, on⟩) :
    Calls Tryz.prog 11 #[.pointer (some ⟨db, 0, none⟩), opdV ⟨0, s, t, sec, gr, fr, lo, on⟩] w (doesPost db mb L ⟨0, s, t, sec, gr, fr, lo, on⟩ w) := by
  have hk : runD (L.map (·.x)) ⟨0, s, t, sec, gr, fr, lo, on⟩ = addO (L.map (·.x)) ⟨0, s, t, sec, gr, fr, lo, on⟩ := rfl
  have hF0 := (Fr.refl [] w).alloc (.cells #[.int .i64 0, strL s, strL t, .int .i64 sec, .int .i64 gr, .int .i64 fr, .int .i64 lo, .bool on] 36)
  have B := Blk.new w [.int .i64 0, strL s, strL t, .int .i64 sec, .int .i64 gr, .int .i64 fr, .int .i64 lo, .bool on] 36
  have h1 := h.fr0 hF0
  have cB := B.cell
  obtain ⟨_, w1, w2, w3, w4, w5, w6⟩ := hw
  simp only at w1 w2 w3 w4 w5 w6
  unfold doesPost
  rw [hk]
  unfold opdV opdC
  clear hk
  obtain ⟨R, hR⟩ : ∃ R, R = addO (L.map (·.x)) ⟨0, s, t, sec, gr, fr, lo, on⟩ := ⟨_, rfl⟩
  rw [← hR]
  have HR := hidIt hR
  clear hR
  cases hn : okNew sec gr with
  | false =>
    have hR2 : R = (L.map (·.x), 1) := HR.out.trans (addO_arg (.inl hn))
    subst hR2
    clear HR
    go_enter Tryz.func11, Tryz.ntmps11
    go_wp2_with fail
    refine (New_no sec gr _ hn).mono ?_
    rintro e w1 ⟨rfl, rfl⟩
    go_wp2_with fail
    refine (Add_arg s _ none _ (.inr rfl)).mono ?_
    rintro e w2 ⟨rfl, hf2⟩
    go_wp2
    go_ret
    first | exact ⟨rfl, L, rfl, h1.fr0 hf2, fun k hk => .inl hk, (hF0.trans0 hf2).weak⟩ | exact ⟨L, rfl, rfl, h1.fr0 hf2, fun k hk => .inl hk, (hF0.trans0 hf2).weak⟩
  | true =>
    go_enter Tryz.func11, Tryz.ntmps11
    go_wp2_with fail
    refine (New_yes sec gr _ hn).mono ?_
    rintro e w1 ⟨tb, bm, rfl, n1, n2, hB, hf⟩
    have B1 := B.fr0 hf
    have cB1 := B1.cell
    have hD1 := h1.fr0 hf
    have hF1 := hF0.trans0 hf
    simp only [World.size_alloc] at n1 n2
    have hBl := B1.lt
    go_wp2_with fail
    refine (Set_calls tb bm _ _ _ fr lo w1 hB w4).mono ?_
    rintro e w2 ⟨rfl, hB2, hf2⟩
    have cB2 := (B1.fr hf2 (by simp; omega)).cell
    have hD2 := hD1.fr hf2 (fun k hk hx => by have := h.lt k hk; have := List.mem_singleton.1 hx; omega)
    have hF2 : Fr [] w w2 := hF1.trans hf2 (fun x hx hl => by have := List.mem_singleton.1 hx; omega)
    have hp : pow2 (gr.toNat : Int) = true := by
      have h2 : pow2 gr = true := by simp [okNew] at hn; exact hn.2
      have := pow2_le h2
      rw [Int.toNat_of_nonneg (by omega)]
      exact h2
    have hnew : newE ⟨0, s, t, sec, gr, fr, lo, on⟩ = ⟨s, true, true, (doS gr.toNat (sec.toNat, List.replicate (gran sec.toNat gr.toNat) false) (0, fr, lo)).1.1, gr.toNat, (doS gr.toNat (sec.toNat, List.replicate (gran sec.toNat gr.toNat) false) (0, fr, lo)).1.2⟩ := rfl
    have Hnew := hidIt hnew
    have Hn := hidIt hn
    clear hnew B1 cB1 hD1 hf hf2 hB hF1 hn
    generalize doS gr.toNat (sec.toNat, List.replicate (gran sec.toNat gr.toNat) false) (0, fr, lo) = q at *
    cases hr : okName s with
    | false =>
      have hR2 : R = (L.map (·.x), 1) := HR.out.trans (addO_arg (.inr hr))
      subst hR2
      clear HR
      go_wp2_with fail
      refine (Add_arg s _ (some ⟨tb, 0, none⟩) _ (.inl hr)).mono ?_
      rintro e w3 ⟨rfl, hf3⟩
      go_wp2
      go_ret
      first | exact ⟨rfl, L, rfl, hD2.fr0 hf3, fun k hk => .inl hk, (hF2.trans0 hf3).weak⟩ | exact ⟨L, rfl, rfl, hD2.fr0 hf3, fun k hk => .inl hk, (hF2.trans0 hf3).weak⟩
    | true =>
      by_cases hth : findC L s ≠ none ∨ 8 ≤ L.length
      · have hth' : findE (L.map (·.x)) s ≠ none ∨ 8 ≤ (L.map (·.x)).length := by rw [findC_isNone, List.length_map]; exact hth
        have hR2 : R = (L.map (·.x), 111) := HR.out.trans (addO_there Hn.out hr hth')
        subst hR2
        clear HR hth'
        go_wp2_with fail
        refine (Add_there db mb L s ⟨tb, 0, none⟩ _ hD2 hr hth).mono ?_
        rintro e w3 ⟨rfl, hf3⟩
        clear hth
        go_wp2
        go_ret
        first | exact ⟨rfl, L, rfl, hD2.fr0 hf3, fun k hk => .inl hk, (hF2.trans0 hf3).weak⟩ | exact ⟨L, rfl, rfl, hD2.fr0 hf3, fun k hk => .inl hk, (hF2.trans0 hf3).weak⟩
      · have hth' : ¬ (findE (L.map (·.x)) s ≠ none ∨ 8 ≤ (L.map (·.x)).length) := by rw [findC_isNone, List.length_map]; exact hth
        have hR2 : R = (insE (newE ⟨0, s, t, sec, gr, fr, lo, on⟩) (L.map (·.x)), 0) := HR.out.trans (addO_yes Hn.out hr hth')
        subst hR2
        clear HR
        have hc : findC L s = none := Classical.byContradiction fun h => hth (.inl h)
        have h8 : L.length < 8 := by have := fun h => hth (.inr h); omega
        clear hth hth'
        go_wp2_with fail
        refine (Add_yes db mb L s tb bm _ _ _ _ hD2 hr hc h8 hB2 hp).mono ?_
        rintro e w3 ⟨rfl, c, hcx, hD3, hcn, hf3⟩
        go_wp2
        go_ret
        refine ⟨rfl, insC c L, ?_, hD3, fun k hk => ?_, (hF2.weak).trans' (hf3.mono fun k hk _ => by simp at hk; simp [hk])⟩
        · rw [insC_E, hcx, Hnew.out]
        · rcases feet_insC hk with h | h
          · right
            have := hcn k h
            have := hF2.size
            omega
          · exact .inl h

theorem lDoes_calls (db mb : Nat) (L : List Cel) (o : OpD) (w : World) (h : DirW w db mb L) (hw : wfD o) : Calls Tryz.prog 11 #[.pointer (some ⟨db, 0, none⟩), opdV o] w (doesPost db mb L o w) := by
  obtain ⟨k, s, t, sec, gr, fr, lo, on⟩ := o
  by_cases n0 : k = 0
  · subst n0; exact does_ad db mb L s t sec gr fr lo on w h hw
  by_cases n1 : k = 1
  · subst n1; exact does_rm db mb L s t sec gr fr lo on w h hw
  by_cases n2 : k = 2
  · subst n2; exact does_sw db mb L s t sec gr fr lo on w h hw
  by_cases n3 : k = 3
  · subst n3; exact does_cl db mb L s t sec gr fr lo on w h hw
  by_cases n4 : k = 4
  · subst n4; exact does_mg db mb L s t sec gr fr lo on w h hw
  by_cases n5 : k = 5
  · subst n5; exact does_wr db mb L s t sec gr fr lo on w h hw
  by_cases n6 : k = 6
  · subst n6; exact does_rz db mb L s t sec gr fr lo on w h hw
  exact does_ot db mb L k s t sec gr fr lo on w h n0 n1 n2 n3 n4 n5 n6 hw
end Go.Proofs.YtiifmakhfpllnaaGreat
