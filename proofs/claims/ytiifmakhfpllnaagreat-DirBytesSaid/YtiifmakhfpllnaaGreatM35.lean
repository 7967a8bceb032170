/-
  ref11: add.
-/
import Derived.Test.YtiifmakhfpllnaaGreatM34
import Derived.Test.YtiifmakhfpllnaaGreatM32
import Derived.Test.YtiifmakhfpllnaaGreatHeldA
import Derived.Test.YtiifmakhfpllnaaGreatM01
namespace Go.Proofs.YtiifmakhfpllnaaGreat
open Go.RowKit Go.Maps
attribute [local go_sem] cells_str store_str eql_str lss_str guard_str
variable {H : List Nat}

/-- what a call of the reference gives -/
def refPost (H : List Nat) (R : List Ent × Int) (w : World) (e : Ending) (w' : World) : Prop := ∃ v' P', e = .returned (.tuple #[v', .int .i64 R.2]) ∧ RefE H w' v' P' ∧ P'.map (·.1) = R.1 ∧ Fr [] w w'
theorem buildEn (s : List UInt8) (p q : Bool) (S g : Int) (a : Option Addr) (n c : Nat) (w : World) : (Instr.build 76 #[(0, strL s), (1, .bool p), (2, .bool q), (3, .agg #[.int .i64 S, .int .i64 g, .slice a n c])]).run Tryz.prog w = .ok (.agg #[strL s, .bool p, .bool q, .int .i64 S, .int .i64 g, .slice a n c]) w := by kernel_rfl
theorem wpList_buildEn {ops : Array Oper} {rest : List Oper} {o : Oper} {a : Act} {Q : Exit → Act → World → Prop} {w : World} (hg : o.guard = none) (x y z u : Operand) (ho : o.op = .build 76 #[(0, x), (1, y), (2, z), (3, u)]) (l : List UInt8) (p q : Bool) (S g : Int) (sa : Option Addr) (n c : Nat)
    (hx : a.eval x = strL l) (hy : a.eval y = .bool p) (hz : a.eval z = .bool q) (hu : a.eval u = .agg #[.int .i64 S, .int .i64 g, .slice sa n c]) (h : wpList Tryz.prog ops Q rest (a.put o.dst (.agg #[strL l, .bool p, .bool q, .int .i64 S, .int .i64 g, .slice sa n c])) w) : wpList Tryz.prog ops Q (o :: rest) a w :=
  wpList_plain hg fun K hK => by
    unfold Oper.wp execOp
    simp only [ho, List.map_toArray, List.map_cons, List.map_nil, hx, hy, hz, hu, Sem.run_bind, buildEn, Result.andThen_ok, Sem.run_pure]
    exact hK _ _ h
set_option maxRecDepth 100000 in
set_option maxHeartbeats 1600000 in
theorem rAdd_calls (v : Value) (P : List (Ent × Value)) (o : OpD) (w : World) (hv : RefE H w v P) (h8 : P.length ≤ 8) (hw : wfD o) :
    Calls Tryz.prog 38 #[v, opdV o] w (refPost H (addO (P.map (·.1)) o) w) := by
  obtain ⟨kk, s, t, sec, gr, fr, lo, on⟩ := o
  obtain ⟨_, w1, w2, w3, w4, w5, w6⟩ := hw
  simp only at w1 w2 w3 w4 w5 w6
  obtain ⟨a, cap, rfl, hlc, hcm, _⟩ := hv.sl.open
  have hf0 := (Fr.refl [] w).alloc (.cells #[.int .i64 kk, strL s, strL t, .int .i64 sec, .int .i64 gr, .int .i64 fr, .int .i64 lo, .bool on] 36)
  have B0 := Blk.new w [.int .i64 kk, strL s, strL t, .int .i64 sec, .int .i64 gr, .int .i64 fr, .int .i64 lo, .bool on] 36
  have c0 := B0.cell
  obtain ⟨R, hR⟩ : ∃ R, R = addO (P.map (·.1)) ⟨kk, s, t, sec, gr, fr, lo, on⟩ := ⟨_, rfl⟩
  rw [← hR]
  have HR := hidIt hR
  clear hR
  unfold opdV opdC
  cases hn : okNew sec gr with
  | false =>
    have hR2 : R = (P.map (·.1), 1) := HR.out.trans (addO_arg (.inl hn))
    subst hR2
    clear HR
    go_enter Tryz.func38, Tryz.ntmps38
    go_wp2_with fail
    refine (rNew_no sec gr _ hn).mono ?_
    rintro e w1 ⟨rfl, hf1⟩
    unfold z0
    have hf2 := (Fr.refl [] w1).alloc (.cells #[.int .i64 0, .int .i64 0, .slice none 0 0] 74)
    have hF := (hf0.trans0 hf1).trans0 hf2
    go_wp2
    go_ret2
    exact ⟨_, P, rfl, hv.fr0 hF, rfl, hF⟩
  | true =>
    have hsec : okSec sec = true := by simp [okNew] at hn; exact hn.1
    have hpw : pow2 gr = true := by simp [okNew] at hn; exact hn.2
    have hs2 : 0 ≤ sec ∧ sec ≤ 4096 := by simpa [okSec] using hsec
    have hg2 := pow2_le hpw
    obtain ⟨S, rfl⟩ := Int.eq_ofNat_of_zero_le hs2.1
    obtain ⟨g, rfl⟩ := Int.eq_ofNat_of_zero_le (show 0 ≤ gr by omega)
    have Hn := hidIt hn
    clear hn
    go_enter Tryz.func38, Tryz.ntmps38
    go_wp2_with fail
    refine (rNew_yes S g _ (by omega) hpw).mono ?_
    rintro e w7 ⟨u, rfl, hown, hf1⟩
    obtain ⟨ua, uc, rfl, _⟩ := Sl.of_owns hown
    have hF1 := hf0.trans0 hf1
    have B1 := B0.fr0 hf1
    have hsb : SlB w7 (.slice ua (gran S g) uc) (List.replicate (gran S g) false) := by
      have h1 : (List.replicate (gran S g) false).length = gran S g := List.length_replicate
      have h2 := hown
      rw [← h1] at h2
      have h3 := SlF.of_owns (f := boolC) (l := List.replicate (gran S g) false) (by rw [h1] at h2 ⊢; exact h2)
      exact h3
    have huok := okV.of_owns hown
    have hubase := own_base hown
    unfold rb
    have B6 := Blk.new w7 [.int .i64 (S : Int), .int .i64 (g : Int), .slice ua (gran S g) uc] 74
    have hf2 := (Fr.refl [] w7).alloc (.cells #[.int .i64 (S : Int), .int .i64 (g : Int), .slice ua (gran S g) uc] 74)
    have hF2 := hF1.trans0 hf2
    have B2 := B1.fr0 hf2
    have c2 := B2.cell
    have hv2 := hv.fr0 hF2
    have hw7 : w.heap.size < w7.heap.size := B1.lt
    clear hown hf1 hF1 B1 c0 B0 hf0
    go_wp2_with fail
    refine (rNameR_calls s _ w5).mono ?_
    rintro e w8 ⟨rfl, hf3⟩
    have hF3 := hF2.trans0 hf3
    cases hr : okName s with
    | false =>
      have hR2 : R = (P.map (·.1), 1) := HR.out.trans (addO_arg (.inr hr))
      subst hR2
      clear HR
      go_wp2
      go_ret2
      exact ⟨_, P, rfl, hv.fr0 hF3, rfl, hF3⟩
    | true =>
      have c3 := (B2.fr0 hf3).cell
      have hv3 := hv.fr0 hF3
      have B6b := B6.fr0 hf3
      go_wp2_with fail
      refine (rFind_calls _ P s _ hv3.sl (by omega)).mono ?_
      rintro e w9 ⟨rfl, rfl⟩
      cases hi : idxE (P.map (·.1)) s with
      | some k =>
        have hth : findE (P.map (·.1)) s ≠ none := fun h => by rw [idxE_none.2 h] at hi; cases hi
        have hR2 : R = (P.map (·.1), 111) := HR.out.trans (addO_there Hn.out hr (.inl hth))
        subst hR2
        clear HR hth hi
        have hki : idxI (some k) = (k : Int) := rfl
        rw [hki]
        go_wp2
        go_ret2
        exact ⟨_, P, rfl, hv.fr0 hF3, rfl, hF3⟩
      | none =>
        have hki : idxI none = -1 := rfl
        rw [hki]
        have hfn := idxE_none.1 hi
        clear hi hki
        by_cases hl8 : 8 ≤ P.length
        · have hR2 : R = (P.map (·.1), 111) := HR.out.trans (addO_there Hn.out hr (.inr (by rw [List.length_map]; exact hl8)))
          subst hR2
          clear HR
          have hl8' : (8 : Int) ≤ P.length := by omega
          go_wp2
          go_ret2
          exact ⟨_, P, rfl, hv.fr0 hF3, rfl, hF3⟩
        · have hR2 : R = (insE (newE ⟨kk, s, t, (S : Int), (g : Int), fr, lo, on⟩) (P.map (·.1)), 0) := HR.out.trans (addO_yes Hn.out hr (by rw [List.length_map]; rintro (h | h); exact h hfn; exact hl8 h))
          have hl8' : ¬ (8 : Int) ≤ P.length := by omega
          clear HR hfn hl8
          have c6 := B6b.cell
          have f6 := B6b.frozen
          have l6 := B6b.lt
          have hrb : RefB w9 (rb S g (.slice ua (gran S g) uc)) S g (List.replicate (gran S g) false) := ⟨⟨_, rfl, SlF.fr0 (SlF.fr0 hsb hf2) hf3, huok⟩, by omega, hpw, by simp⟩
          have kS := rSetL_calls S g (.slice ua (gran S g) uc) (List.replicate (gran S g) false) fr lo true w9 hrb w4
          rw [if_pos rfl] at kS
          have hnew : newE ⟨kk, s, t, (S : Int), (g : Int), fr, lo, on⟩ = ⟨s, true, true, (doS g (S, List.replicate (gran S g) false) (0, fr, lo)).1.1, g, (doS g (S, List.replicate (gran S g) false) (0, fr, lo)).1.2⟩ := by unfold newE; simp
          rw [hnew] at hR2
          have HR2 := hidIt hR2
          have Huok := hidIt huok
          have Hub := hidIt hubase
          clear hR2 hnew hrb hsb huok hubase
          generalize doS g (S, List.replicate (gran S g) false) (0, fr, lo) = q at *
          have hR3 := HR2.out
          subst hR3
          clear HR2
          unfold rb at kS
          go_wp2_with fail
          refine kS.mono ?_
          rintro e w10 ⟨u2, rfl, hqS, hsb2, hok20, hf4, hlo⟩
          have hok2 : okH H u2 := okH.loc (W := w9.heap.size) (u := .slice ua (gran S g) uc) (okH.mk Huok.out fun k hk hm => by have h1 := Hub.out k hk; have h2 := hv.low k hm; simp at h1; omega) hok20 hlo (fun k hk => Nat.lt_of_lt_of_le (hv.low k hk) hF3.size)
          clear hlo hok20
          obtain ⟨ua2, uc2, rfl, _⟩ := SlF.open hsb2
          have hF4 := hF3.trans0 hf4
          have c4 := ((B2.fr0 hf3).fr0 hf4).cell
          have B6c := B6b.fr0 hf4
          have d6 := B6c.cell
          have e6 := B6c.frozen
          have m6 := B6c.lt
          have hfs : Fr [w7.heap.size] w10 (((w10.setCell ⟨w7.heap.size, 0, none⟩ (.int .i64 (S : Int))).setCell ⟨w7.heap.size, 1, none⟩ (.int .i64 (g : Int))).setCell ⟨w7.heap.size, 2, none⟩ (.slice ua2 q.1.2.length uc2)) := Fr.set3 w10 w7.heap.size _ _ _
          have hz7 := hF2.size
          simp only [World.size_alloc] at hz7
          have hF5 := hF4.trans hfs (fun x hx hl => by
            have := List.mem_singleton.1 hx
            have h1 := B2.lt
            omega)
          have e66 := ((B6c.setCell 0 (.int .i64 (S : Int))).setCell 1 (.int .i64 (g : Int))).setCell 2 (.slice ua2 q.1.2.length uc2)
          have x6 := e66.cell
          have hv5 := hv.fr0 hF5
          have hB0 := ((((B2.fr0 hf3).fr0 hf4)).fr hfs (by simp; have := B2.lt; omega)).cell
          have hp5 : rowP H (((w10.setCell ⟨w7.heap.size, 0, none⟩ (.int .i64 (S : Int))).setCell ⟨w7.heap.size, 1, none⟩ (.int .i64 (g : Int))).setCell ⟨w7.heap.size, 2, none⟩ (.slice ua2 q.1.2.length uc2)) (⟨s, true, true, S, g, q.1.2⟩, .slice ua2 q.1.2.length uc2) :=
            ⟨SlB.keep hsb2 B6c noB hfs, hok2⟩
          have kP := rPut_calls _ P (⟨s, true, true, S, g, q.1.2⟩, .slice ua2 q.1.2.length uc2) _ hv5 (by omega) hp5
          unfold enV at kP
          simp only at kP
          have Hins : Hid ((insP (⟨s, true, true, S, g, q.1.2⟩, .slice ua2 q.1.2.length uc2) P).map (·.1) = insE ⟨s, true, true, q.1.1, g, q.1.2⟩ (P.map (·.1))) := hidIt (by rw [insP_E, hqS])
          clear kS hsb2 hok2 hF4 hf4 B6c B6b B6 hfs e66 hv2 hv3 hp5 hqS hf2 hf3
          generalize insP (⟨s, true, true, S, g, q.1.2⟩, .slice ua2 q.1.2.length uc2) P = PP at *
          go_wp2_with (refine wpList_buildEn rfl _ _ _ _ rfl _ _ _ _ _ _ _ _ rfl rfl rfl rfl ?_)
          refine kP.mono ?_
          rintro e w11 ⟨v', rfl, hv', hf11⟩
          go_wp2
          go_ret2
          exact ⟨_, PP, rfl, hv', Hins.out, hF5.trans0 hf11⟩
end Go.Proofs.YtiifmakhfpllnaaGreat

namespace Go.Proofs.YtiifmakhfpllnaaGreat
open Go.RowKit Go.Maps
attribute [local go_sem] cells_str store_str eql_str lss_str guard_str

theorem set_one {E : List Ent} (hr : E.Pairwise fun a b => a.name < b.name) {k : Nat} (hk : k < E.length) (f : Ent → Ent) : oneE E (E[k]).name f = E.set k (f E[k]) := by
  unfold oneE chE
  apply List.ext_getElem
  · simp
  · intro j h1 h2
    rw [List.getElem_map, List.getElem_set]
    have hj : j < E.length := by simpa using h1
    by_cases e : k = j
    · subst e
      simp
    · have hne : ¬ (E[j]).name = (E[k]).name := by
        intro h
        rcases Nat.lt_or_gt_of_ne e with h3 | h3
        · have := List.pairwise_iff_getElem.1 hr k j hk hj h3
          rw [h] at this
          exact List.lt_irrefl _ this
        · have := List.pairwise_iff_getElem.1 hr j k hj hk h3
          rw [h] at this
          exact List.lt_irrefl _ this
      rw [if_neg (by simpa using hne), if_neg e]
theorem rm_one {E : List Ent} (hr : E.Pairwise fun a b => a.name < b.name) {k : Nat} (hk : k < E.length) : rmE E (E[k]).name = E.take k ++ E.drop (k + 1) := by
  have h1 : E = E.take k ++ E[k] :: E.drop (k + 1) := by
    rw [← List.drop_eq_getElem_cons hk, List.take_append_drop]
  have hp := hr
  rw [h1, List.pairwise_append, List.pairwise_cons] at hp
  have hlt : ∀ d ∈ E.take k, d.name < (E[k]).name := fun d hd => hp.2.2 d hd _ List.mem_cons_self
  have hgt := hp.2.1.1
  clear hp hr
  unfold rmE
  generalize E[k] = y at *
  conv => lhs; rw [h1]
  rw [List.filter_append, List.filter_cons, if_neg (by simp)]
  congr 1
  · refine List.filter_eq_self.2 fun d hd => ?_
    have := hlt d hd
    simp only [ne_eq, decide_not, Bool.not_eq_true', decide_eq_false_iff_not]
    intro h
    rw [h] at this
    exact List.lt_irrefl _ this
  · refine List.filter_eq_self.2 fun d hd => ?_
    have := hgt d hd
    simp only [ne_eq, decide_not, Bool.not_eq_true', decide_eq_false_iff_not]
    intro h
    rw [h] at this
    exact List.lt_irrefl _ this
theorem codeE_idx {E : List Ent} {s : List UInt8} : (idxE E s = none → codeE E s = 112) ∧ (∀ k, idxE E s = some k → codeE E s = 0) := by
  unfold codeE
  constructor
  · intro h
    rw [idxE_none.1 h]
  · intro k h
    obtain ⟨_, _, h2⟩ := idxE_some h
    rw [h2]
theorem okV_from {a : Option Addr} {n cap m k : Nat} (h : okV (.slice a n cap)) (hm : m ≤ cap) : okV (.slice (slAddr a cap m k) (n - m) (cap - m)) := by
  intro n' c' hv
  have hv := Value.slice.inj hv
  by_cases e : cap = m
  · omega
  · have ha : slAddr a cap m k = none := hv.1
    unfold slAddr at ha
    rw [if_neg e] at ha
    cases a with
    | none => have := h n cap rfl; omega
    | some p => cases ha
theorem okV_to {a : Option Addr} {n cap m : Nat} (h : okV (.slice a n cap)) : okV (.slice a m cap) := by
  intro n' c' hv
  have hv := Value.slice.inj hv
  have := h n cap (by rw [hv.1])
  omega
def withPost2 (H : List Nat) (w : World) (Q : List (Ent × Value)) (e : Ending) (w' : World) : Prop := ∃ v', e = .returned (.tuple #[v', .int .i64 0]) ∧ RefE H w' v' Q ∧ Fr [] w w'
def withPost3 (H : List Nat) (w : World) (Q : List (Ent × Value)) (c : Int) (e : Ending) (w' : World) : Prop := ∃ v', e = .returned (.tuple #[v', .int .i64 c]) ∧ RefE H w' v' Q ∧ Fr [] w w'
variable {H : List Nat}
/-- an entry as it lies in its box -/
def boxC (x : Ent) (a : Option Addr) (n c : Nat) : List Value := [strL x.name, .bool x.on, .bool x.use, .int .i64 x.S, .int .i64 x.g, .slice a n c]
set_option maxRecDepth 100000 in
set_option maxHeartbeats 1600000 in
theorem rOne_none (v : Value) (P : List (Ent × Value)) (o : OpD) (w : World) (hv : RefE H w v P) (h8 : P.length ≤ 8) (hw : wfD o) (hi : idxE (P.map (·.1)) o.name = none) :
    Calls Tryz.prog 39 #[v, opdV o] w (refPost H (P.map (·.1), 112) w) := by
  obtain ⟨kk, s, t, sec, gr, fr, lo, on⟩ := o
  simp only at hi
  obtain ⟨a, cap, rfl, hlc, hcm, _⟩ := hv.sl.open
  have hf0 := (Fr.refl [] w).alloc (.cells #[.int .i64 kk, strL s, strL t, .int .i64 sec, .int .i64 gr, .int .i64 fr, .int .i64 lo, .bool on] 36)
  have c0 := (Blk.new w [.int .i64 kk, strL s, strL t, .int .i64 sec, .int .i64 gr, .int .i64 fr, .int .i64 lo, .bool on] 36).cell
  have hv1 := hv.fr0 hf0
  unfold opdV opdC
  go_enter Tryz.func39, Tryz.ntmps39
  go_wp2_with fail
  refine (rFind_calls _ P s _ hv1.sl (by omega)).mono ?_
  rintro e w9 ⟨rfl, rfl⟩
  rw [hi]
  have hki : idxI none = -1 := rfl
  rw [hki]
  go_wp2
  go_ret2
  exact ⟨_, P, rfl, hv.fr0 hf0, rfl, hf0⟩
set_option maxRecDepth 100000 in
set_option maxHeartbeats 1600000 in
theorem rOne_rm (v : Value) (P : List (Ent × Value)) (s t : List UInt8) (sec gr fr lo : Int) (on : Bool) (k : Nat) (w : World) (hv : RefE H w v P) (h8 : P.length ≤ 8) (hi : idxE (P.map (·.1)) s = some k) :
    Calls Tryz.prog 39 #[v, opdV ⟨1, s, t, sec, gr, fr, lo, on⟩] w (withPost2 H w (P.take k ++ P.drop (k + 1))) := by
  have hk : k < P.length := by
    obtain ⟨hkE, _, _⟩ := idxE_some hi
    simpa using hkE
  obtain ⟨a, cap, rfl, hlc, hcm, _⟩ := hv.sl.open
  have hf0 := (Fr.refl [] w).alloc (.cells #[.int .i64 1, strL s, strL t, .int .i64 sec, .int .i64 gr, .int .i64 fr, .int .i64 lo, .bool on] 36)
  have B0 := Blk.new w [.int .i64 1, strL s, strL t, .int .i64 sec, .int .i64 gr, .int .i64 fr, .int .i64 lo, .bool on] 36
  have c0 := B0.cell
  have hv1 := hv.fr0 hf0
  obtain ⟨b, off, rfl, hb, d0, d1, d2, d3, d4, d5⟩ := SlE.at hv1.sl hk
  have hg : P.getD k zP = P[k] := by rw [List.getD_eq_getElem?_getD, List.getElem?_eq_getElem hk]; rfl
  rw [hg] at d0 d1 d2 d3 d4 d5
  obtain ⟨qa, qn, qc, hqe0⟩ := enT (H := H) w (P[k])
  have hqe := hqe0 (hv.rows _ (List.getElem_mem hk))
  rw [hqe] at d5
  generalize (P[k]).1 = x at *
  have hto := fun W => cut_to (P := Tryz.prog) (w := W) 31 76 6 Tryz.underlying31 (by kernel_rfl) (some ⟨b, off, none⟩) P.length cap k (by omega)
  have hfrom := fun W => cut_from (P := Tryz.prog) (w := W) 31 76 6 Tryz.underlying31 (by kernel_rfl) (some ⟨b, off, none⟩) P.length cap (k + 1) (by omega)
  have hki : idxI (some k) = (k : Int) := rfl
  clear hg hqe0 hqe
  unfold opdV opdC
  go_enter Tryz.func39, Tryz.ntmps39
  go_wp2_with fail
  refine (rFind_calls _ P s _ hv1.sl (by omega)).mono ?_
  rintro e w9 ⟨rfl, hw9⟩
  subst hw9
  rw [hi, hki]
  go_wp2_with fail
  have hF7 : Fr [] w ((w.alloc (.cells #[.int .i64 1, strL s, strL t, .int .i64 sec, .int .i64 gr, .int .i64 fr, .int .i64 lo, .bool on] 36)).alloc (.cells #[strL x.name, .bool x.on, .bool x.use, .int .i64 x.S, .int .i64 x.g, .slice qa qn qc] 76)) := hf0.alloc _
  clear hv1 c0 B0 hf0 d0 d1 d2 d3 d4 d5 hb
  generalize (w.alloc (.cells #[.int .i64 1, strL s, strL t, .int .i64 sec, .int .i64 gr, .int .i64 fr, .int .i64 lo, .bool on] 36)).alloc (.cells #[strL x.name, .bool x.on, .bool x.use, .int .i64 x.S, .int .i64 x.g, .slice qa qn qc] 76) = w1 at *
  have hF8 : Fr [] w w1.drew := hF7.drew
  have hv1 := hv.fr0 hF8
  have hs1 := SlF.to 6 (fun _ => rfl) hv1.sl (m := k) (by omega)
  have hs2 := SlF.from 6 (fun _ => rfl) hv1.sl (m := k + 1) (by omega)
  have hto6 := flat6_length (P.take k)
  have hfr6 := flat6_length (P.drop (k + 1))
  have ht1 : (P.take k).length = k := by simp; omega
  have ht2 : (P.drop (k + 1)).length = P.length - (k + 1) := by simp
  rw [ht1] at hto6
  rw [ht2] at hfr6
  have hone1 : ∀ u ∈ (P.take k).flatMap enC, u.oneCell' = true := rows_one fun p hp => hv.rows p (List.mem_of_mem_take hp)
  have hone2 : ∀ u ∈ (P.drop (k + 1)).flatMap enC, u.oneCell' = true := rows_one fun p hp => hv.rows p (List.mem_of_mem_drop hp)
  have hmade := World.ownsRow_made (base := w1.heap.size) (e := 76) (size := 6) w1.drew #[] 0 (Nat.le_refl _) (by decide) rfl
  have hwr : IntKind.i64.wrap ((k : Int) + 1) = ((k + 1 : Nat) : Int) := (IntWalk.i64_in _ (by omega)).trans (by omega)
  refine wp_region_G (Fr [] w1.drew) [(true, 1), (true, 2), (true, 3), (true, 5), (true, 6), (true, 7), (true, 8), (false, 0), (false, 4), (false, 9), (true, 10), (true, 11)] (by as_aux_lemma => kernel_rfl) (by as_aux_lemma => kernel_rfl) (Fr.refl _ _) ?_
  simp only [inOrder, List.map_cons, List.map_nil, List.getD_cons_zero, List.getD_cons_succ]
  iterate 2
    refine wpG_pure fun K hK => ?_
    go_simp
    refine hK _ ?_
    clear hK K
  refine wpG_val (.slice (some ⟨b, off, none⟩) k cap) (by first | rfl | go_simp) (fun X hX => by have cc := hto X; go_simp) ?_
  simp only [Act.put, List.setIfInBounds_toArray, List.set_cons_zero, List.set_cons_succ]
  iterate 2
    refine wpG_pure fun K hK => ?_
    go_simp
    refine hK _ ?_
    clear hK K
  refine wpG_val (.int .i64 ((k + 1 : Nat) : Int)) (by first | rfl | go_simp) (fun X hX => by have cc := hwr; go_simp) ?_
  simp only [Act.put, List.setIfInBounds_toArray, List.set_cons_zero, List.set_cons_succ]
  refine wpG_val (.slice (slAddr (some ⟨b, off, none⟩) cap (k + 1) 6) (P.length - (k + 1)) (cap - (k + 1))) (by first | rfl | go_simp) (fun X hX => by have cc := hwr; go_simp; rw [if_pos (by omega)]; unfold slAddr; split <;> simp [Addr.add, *]) ?_
  simp only [Act.put, List.setIfInBounds_toArray, List.set_cons_zero, List.set_cons_succ]
  refine wpG_one fun K hK => ?_
  go_simp
  refine hK _ _ ((Fr.refl _ _).alloc _) ?_
  clear hK K
  refine wpG_list rfl (fun _ _ h => h) fun K hK => ?_
  refine wpList_append_slL 31 76 (.agg #[.string ⟨#[]⟩, .bool false, .bool false, .int .i64 0, .int .i64 0, .slice none 0 0]) 6 64 Tryz.underlying31 infoEn rfl (by decide) (by decide) rfl _ _ rfl w1.heap.size _ 0 _ rfl hmade _ k ((P.take k).flatMap enC) ((show Sl w1.drew (.slice (some ⟨b, off, none⟩) k cap) k ((P.take k).flatMap enC) by have h2 := hs1; unfold SlF at h2; rw [ht1] at h2; exact h2).fr0 ((Fr.refl _ _).alloc _)) (okV_to hv.ok.1) hto6 hone1 rfl (by omega) (by omega) (by simp) ?_
  intro v4 w4 hown4 hgr4 hloc4
  rw [Nat.zero_add, List.nil_append] at hown4
  have hF4 : Fr [] w1.drew w4 := ((Fr.refl [] w1.drew).alloc (.cells #[] 76)).grown hgr4 (fun x hx => .inr (by cases hx; exact Nat.le_refl _))
  refine hK _ (fun _ h => h) _ _ hF4 ?_
  clear hK K
  refine wpG_list rfl (fun _ _ h => h) fun K hK => ?_
  refine wpList_append_slL 31 76 (.agg #[.string ⟨#[]⟩, .bool false, .bool false, .int .i64 0, .int .i64 0, .slice none 0 0]) 6 64 Tryz.underlying31 infoEn rfl (by decide) (by decide) rfl _ _ rfl w1.heap.size v4 k _ rfl hown4 _ (P.length - (k + 1)) ((P.drop (k + 1)).flatMap enC) ((show Sl w1.drew (.slice (slAddr (some ⟨b, off, none⟩) cap (k + 1) 6) (P.length - (k + 1)) (cap - (k + 1))) (P.length - (k + 1)) ((P.drop (k + 1)).flatMap enC) by have h2 := hs2; unfold SlF at h2; rw [ht2] at h2; exact h2).fr0 hF4) (okV_from hv.ok.1 (by omega)) hfr6 hone2 rfl (by omega) (by omega) (by have := hF4.size; exact this) ?_
  intro v5 w5 hown5 hgr5 hloc5
  have hF5 : Fr [] w1.drew w5 := hF4.grown hgr5 (fun x hx => .inr (own_base hown4 x hx))
  refine hK _ (fun _ h => h) _ _ hF5 ?_
  clear hK K
  iterate 2
    refine wpG_pure fun K hK => ?_
    go_simp
    refine hK _ ?_
    clear hK K
  refine wpG_end ?_
  have hlen : (P.take k ++ P.drop (k + 1)).length = k + (P.length - (k + 1)) := by rw [List.length_append, ht1, ht2]
  rw [← List.flatMap_append, ← hlen] at hown5
  have hsl := SlF.of_owns (f := enC) hown5
  have hF9 := hF8.trans0 hF5
  have hok5 := okH.of_owns hown5 (fun k hk => Nat.lt_of_lt_of_le (hv.low k hk) hF7.size)
  have hrows : ∀ p ∈ P.take k ++ P.drop (k + 1), rowP H w5 p := fun p hp => (hv.rows p (by
    rcases List.mem_append.1 hp with h | h
    · exact List.mem_of_mem_take h
    · exact List.mem_of_mem_drop h)).fr0 hF9
  clear hown5 hown4 hgr4 hgr5 hloc4 hloc5 hs1 hs2 hmade hv1 hto hfrom
  go_wp2
  go_ret2
  exact ⟨_, rfl, ⟨hsl, hok5, hrows, fun k hk => Nat.lt_of_lt_of_le (hv.low k hk) hF9.size⟩, hF9⟩
end Go.Proofs.YtiifmakhfpllnaaGreat
