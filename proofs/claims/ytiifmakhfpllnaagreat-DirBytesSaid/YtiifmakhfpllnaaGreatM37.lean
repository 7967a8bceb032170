/-
  ref11: one of all kinds; Do.
-/
import Derived.Test.YtiifmakhfpllnaaGreatM36
import Derived.Test.YtiifmakhfpllnaaGreatM41
namespace Go.Proofs.YtiifmakhfpllnaaGreat
open Go.RowKit Go.Maps
attribute [local go_sem] cells_str store_str eql_str lss_str guard_str

variable {H : List Nat}
theorem rmE_none {E : List Ent} {s : List UInt8} (h : findE E s = none) : rmE E s = E := by
  unfold rmE
  refine List.filter_eq_self.2 fun d hd => ?_
  unfold findE at h
  have := List.find?_eq_none.1 h d hd
  simpa using this
theorem oneE_no {E : List Ent} {s : List UInt8} (h : findE E s = none) (f : Ent → Ent) : oneE E s f = E := oneE_none f fun d hd => by
  unfold findE at h
  have := List.find?_eq_none.1 h d hd
  simpa using this
theorem refPost_of {Q : List (Ent × Value)} {R : List Ent × Int} {w : World} {e : Ending} {w' : World} (h : withPost2 H w Q e w') (h1 : Q.map (·.1) = R.1) (h2 : R.2 = 0) : refPost H R w e w' := by
  obtain ⟨v, rfl, hv, hf⟩ := h
  exact ⟨v, Q, by rw [h2], hv, h1, hf⟩
theorem refPost_of3 {P : List (Ent × Value)} {R : List Ent × Int} {w : World} {c : Int} {e : Ending} {w' : World} (h : withPost3 H w P c e w') (h1 : P.map (·.1) = R.1) (h2 : R.2 = c) : refPost H R w e w' := by
  obtain ⟨v, rfl, hv, hf⟩ := h
  exact ⟨v, P, by rw [h2], hv, h1, hf⟩
theorem rOne_calls (v : Value) (P : List (Ent × Value)) (o : OpD) (w : World) (hv : RefE H w v P) (hok : OkD (P.map (·.1))) (hw : wfD o) (hk : o.k = 1 ∨ o.k = 2 ∨ o.k = 3 ∨ o.k = 4) :
    Calls Tryz.prog 39 #[v, opdV o] w (refPost H (runD (P.map (·.1)) o) w) := by
  have h8 : P.length ≤ 8 := by have := hok.few; simpa using this
  cases hi : idxE (P.map (·.1)) o.name with
  | none =>
    have hn := idxE_none.1 hi
    have hR : runD (P.map (·.1)) o = (P.map (·.1), 112) := by
      have hc := codeE_idx.1 hi
      unfold runD mgO
      rcases hk with hk | hk | hk | hk <;> rw [hk] <;> simp [rmE_none hn, oneE_no hn, hc, hn]
    rw [hR]
    exact rOne_none v P o w hv h8 hw hi
  | some k =>
    obtain ⟨kk, s, t, sec, gr, fr, lo, on⟩ := o
    simp only at hi hk
    obtain ⟨hkE, hnm, hfs⟩ := idxE_some hi
    have hkP : k < P.length := by simpa using hkE
    have hEk : (P.map (·.1))[k] = (P[k]).1 := by simp
    have hc0 := codeE_idx.2 k hi
    have hset : ∀ f : Ent → Ent, oneE (P.map (·.1)) s f = (P.map (·.1)).set k (f (P[k]).1) := fun f => by
      have := set_one hok.rising hkE f
      rw [hnm, hEk] at this
      exact this
    have hokP : ∀ p ∈ P, OkE p.1 := fun p hp => hok.all _ (List.mem_map.2 ⟨p, hp, rfl⟩)
    rcases hk with rfl | rfl | rfl | rfl
    · refine (rOne_rm v P s t sec gr fr lo on k w hv h8 hi).mono fun e w' h => refPost_of h ?_ ?_
      · have := rm_one hok.rising hkE
        rw [hnm] at this
        show _ = rmE _ _
        rw [this, List.map_append, List.map_take, List.map_drop]
      · exact hc0
    · refine (rOne_sw v P s t sec gr fr lo on k w hv h8 hi).mono fun e w' h => refPost_of h ?_ ?_
      · show _ = oneE _ _ _
        rw [hset, List.map_set]
      · exact hc0
    · refine (rOne_cl v P s t sec gr fr lo on k w hv h8 hi hokP).mono fun e w' h => ?_
      obtain ⟨u, Q, h, _, rfl⟩ := h
      refine refPost_of h ?_ ?_
      · show _ = oneE _ _ _
        rw [hset, List.map_set]
      · exact hc0
    · cases hj : idxE (P.map (·.1)) t with
      | none =>
        refine (rOne_mgNo v P s t sec gr fr lo on k w hv h8 hi hj).mono fun e w' h => ?_
        have hR : runD (P.map (·.1)) ⟨4, s, t, sec, gr, fr, lo, on⟩ = (P.map (·.1), 112) := by
          show mgO _ s t = _
          unfold mgO
          rw [idxE_none.1 hj]
          cases findE (P.map (·.1)) s <;> rfl
        rw [hR]
        exact refPost_of3 (P := P) h rfl rfl
      | some j =>
        obtain ⟨hjE, _, hft⟩ := idxE_some hj
        have hjP : j < P.length := by simpa using hjE
        have hEj : (P.map (·.1))[j] = (P[j]).1 := by simp
        rw [hEk] at hfs
        rw [hEj] at hft
        have hR : runD (P.map (·.1)) ⟨4, s, t, sec, gr, fr, lo, on⟩ = ((P.map (·.1)).set k (mgE (P[j]).1 (P[k]).1), if (P[k]).1.S = (P[j]).1.S then 0 else 1) := by
          show mgO _ s t = _
          unfold mgO
          rw [hfs, hft]
          simp only
          rw [hset]
        rw [hR]
        by_cases hS : (P[k]).1.S = (P[j]).1.S
        · rw [if_pos hS]
          refine (rOne_mgS v P s t sec gr fr lo on k w hv h8 hi hokP j hj (P[k]).1 (P[j]).1 (fun _ => rfl) (fun _ => rfl) hS).mono fun e w' h => ?_
          obtain ⟨u, Q, h, rfl⟩ := h
          refine refPost_of h ?_ rfl
          rw [List.map_set]
        · rw [if_neg hS]
          refine (rOne_mgD v P s t sec gr fr lo on k w hv h8 hi hokP j hj (P[k]).1 (P[j]).1 (fun _ => rfl) (fun _ => rfl) hS).mono fun e w' h => ?_
          refine refPost_of3 (P := P) h ?_ rfl
          have : mgE (P[j]).1 (P[k]).1 = (P[k]).1 := by unfold mgE; rw [if_neg hS]
          rw [this]
          apply List.ext_getElem
          · simp
          · intro i h1 h2
            rw [List.getElem_set]
            split
            · rename_i e
              subst e
              simp
            · rfl
/-- a store into a cell that is no truth's -/
theorem SlB.put {w : World} {u : Value} {l : List Bool} (h : SlB w u l) {b o : Nat} {c : Value} (hc : w.cell? ⟨b, o, none⟩ = some c) (hnb : ∀ q, c ≠ .bool q) (v : Value) : SlB (w.setCell ⟨b, o, none⟩ v) u l := by
  obtain ⟨a, cap, rfl, h1, h2, hs⟩ := h
  refine ⟨a, cap, rfl, h1, h2, ?_⟩
  rcases hs with hs | ⟨b', off, rfl, hb, hs⟩
  · exact .inl hs
  · refine .inr ⟨b', off, rfl, by simpa using hb, fun j x hx => ?_⟩
    rw [World.cell?_setCell_other]
    · exact hs j x hx
    · intro e
      cases e
      rw [hs j x hx] at hc
      cases hc
      obtain ⟨q, _, hq⟩ := List.mem_flatMap.1 (List.mem_of_getElem? hx)
      have : c = .bool q := by simpa [boolC] using hq
      exact hnb q this
/-- the loop's row: what has turned, and what has not -/
def midP (E : List Ent) (f : Ent → Ent) (k : Nat) : List Ent := (E.take k).map f ++ E.drop k
theorem midP_step {E : List Ent} {f : Ent → Ent} {k : Nat} (hk : k < E.length) : (midP E f k).set k (f (E[k])) = midP E f (k + 1) := by
  unfold midP
  have h1 : ((E.take k).map f).length = k := by simp; omega
  rw [List.set_append, if_neg (by omega), h1, Nat.sub_self, List.drop_eq_getElem_cons hk, List.take_succ_eq_append_getElem hk]
  simp only [List.set_cons_zero, List.map_append, List.map_cons, List.map_nil, List.append_assoc, List.cons_append, List.nil_append]
theorem midP_get {E : List Ent} {f : Ent → Ent} {k : Nat} (hk : k < E.length) (h : k < (midP E f k).length) : (midP E f k)[k] = E[k] := by
  have h1 : ((E.take k).map f).length = k := by simp; omega
  have h2 : (midP E f k)[k]? = some (E[k]) := by
    unfold midP
    rw [List.getElem?_append_right (by omega), h1, Nat.sub_self, List.getElem?_drop, Nat.add_zero, List.getElem?_eq_getElem hk]
  exact (List.getElem?_eq_some_iff.1 h2).2
theorem midP_len {E : List Ent} {f : Ent → Ent} {k : Nat} (hk : k ≤ E.length) : (midP E f k).length = E.length := by
  unfold midP
  simp
  omega
theorem midP_all (E : List Ent) (f : Ent → Ent) : midP E f E.length = allE E f := by
  unfold midP allE chE
  simp
set_option maxRecDepth 100000 in
set_option maxHeartbeats 3200000 in
theorem rDo_wr (v : Value) (P : List (Ent × Value)) (s t : List UInt8) (sec gr fr lo : Int) (on : Bool) (w : World) (hv : RefE H w v P) (hok : OkD (P.map (·.1))) (hw : wfD ⟨5, s, t, sec, gr, fr, lo, on⟩) :
    Calls Tryz.prog 10 #[v, opdV ⟨5, s, t, sec, gr, fr, lo, on⟩] w (refPost H (allE (P.map (·.1)) ((wrE fr lo)), 0) w) := by
  have h8 : P.length ≤ 8 := by have := hok.few; simpa using this
  obtain ⟨_, _, _, _, hlo, _, _⟩ := hw
  simp only at hlo
  have hokP : ∀ p ∈ P.map (·.1), OkE p := hok.all
  have hf0 := (Fr.refl [] w).alloc (.cells #[.int .i64 5, strL s, strL t, .int .i64 sec, .int .i64 gr, .int .i64 fr, .int .i64 lo, .bool on] 36)
  have B0 := Blk.new w [.int .i64 5, strL s, strL t, .int .i64 sec, .int .i64 gr, .int .i64 fr, .int .i64 lo, .bool on] 36
  have hv0 := hv.fr0 hf0
  have c0 := B0.cell
  obtain ⟨E, hE⟩ : ∃ E, P.map (·.1) = E := ⟨_, rfl⟩
  have hEl : E.length ≤ 8 := by rw [← hE]; simpa using h8
  rw [hE] at hokP ⊢
  clear hok
  unfold opdV opdC
  go_enter Tryz.func10, Tryz.ntmps10
  go_wp2
  go_loopw [0, 6, 7] (fun u i _ wr => ∃ (k : Nat) (Q : List (Ent × Value)), k ≤ E.length ∧ i = .int .i64 k ∧ RefE H wr u Q ∧ Q.map (·.1) = midP E ((wrE fr lo)) k ∧ Blk wr w.heap.size [.int .i64 5, strL s, strL t, .int .i64 sec, .int .i64 gr, .int .i64 fr, .int .i64 lo, .bool on] 36 ∧ Fr [] w wr) (fun _ i _ _ => E.length - (intOf i).toNat)
  case atStart => exact ⟨0, P, Nat.zero_le _, rfl, hv0, by rw [hE]; simp [midP], B0, hf0⟩
  case round =>
    clear B0 c0 hv0 hf0
    obtain ⟨k, Q, hk, rfl, hQ, hQE, B0, hF⟩ := hrel
    have hQl : Q.length = E.length := by
      have := congrArg List.length hQE
      rw [List.length_map, midP_len hk] at this
      exact this
    have c0 := B0.cell
    have l0 := B0.lt
    obtain ⟨a, cap, rfl, hlc, hcm, _⟩ := hQ.sl.open
    by_cases hlt : k < E.length
    · have hlt2 : k < Q.length := by omega
      obtain ⟨b, off, rfl, hb, d0, d1, d2, d3, d4, d5⟩ := SlE.at hQ.sl hlt2
      have hg : Q.getD k zP = Q[k] := by rw [List.getD_eq_getElem?_getD, List.getElem?_eq_getElem hlt2]; rfl
      have hx : (Q[k]).1 = E[k] := by
        have h1 := midP_get (f := (wrE fr lo)) hlt (by rw [midP_len hk]; exact hlt)
        rw [← h1]
        simp [← hQE]
      obtain ⟨qa, qn, qc, hqe0⟩ := enT (H := H) wr (Q[k])
      have hrow := hQ.rows _ (List.getElem_mem hlt2)
      have hqe := hqe0 hrow
      rw [hg] at d0 d1 d2 d3 d4 d5
      rw [hqe] at d5
      unfold rowP at hrow
      rw [hqe] at hrow
      rw [hx] at hrow d0 d1 d2 d3 d4
      have hokx := hokP _ (List.getElem_mem hlt)
      have Hstep : Hid (∀ u' : Value, (Q.set k ((wrE fr lo) (E[k]), u')).map (·.1) = midP E ((wrE fr lo)) (k + 1)) := hidIt (fun u' => by rw [List.map_set, hQE, midP_step hlt])
      have Hsame : Hid ((wrE fr lo) (E[k]) = E[k] → Q.map (·.1) = midP E ((wrE fr lo)) (k + 1)) := hidIt (fun h => by
        rw [← midP_step hlt, h, hQE]
        have h1 := midP_get (f := (wrE fr lo)) hlt (by rw [midP_len hk]; exact hlt)
        apply List.ext_getElem
        · simp
        · intro i g1 g2
          rw [List.getElem_set]
          split
          · rename_i e; subst e; exact h1
          · rfl)
      clear hx hqe hqe0 hg hQE
      have Hk : Hid (k < E.length) := hidIt hlt
      have Hql := hidIt hQl
      have hlq : (k : Int) < Q.length := by omega
      clear hQl
      generalize E[k] = x at *
      have B7 := Blk.new wr [strL x.name, .bool x.on, .bool x.use, .int .i64 x.S, .int .i64 x.g, .slice qa qn qc] 76
      have hf7 := (Fr.refl [] wr).alloc (.cells #[strL x.name, .bool x.on, .bool x.use, .int .i64 x.S, .int .i64 x.g, .slice qa qn qc] 76)
      have hF7 := hF.trans0 hf7
      have B07 := B0.fr0 hf7
      have hrb : RefB (wr.alloc (.cells #[strL x.name, .bool x.on, .bool x.use, .int .i64 x.S, .int .i64 x.g, .slice qa qn qc] 76)) (rb x.S x.g (.slice qa qn qc)) x.S x.g x.l := ⟨⟨_, rfl, SlF.fr0 hrow.1 hf7, hrow.2.1⟩, hokx.size, hokx.pow, hokx.len⟩
      cases hon : x.on with
      | true =>
        rw [hon] at hrb B7 hf7 hF7 B07 d1
        have kS := (by have h1 := rSetL_calls x.S x.g (.slice qa qn qc) x.l fr lo true _ hrb hlo; rw [if_pos rfl] at h1; exact h1)
        generalize hq : doS x.g (x.S, x.l) (0, fr, lo) = q at *
        unfold rb at kS
        go_wp2_with fail
        refine kS.mono ?_
        rintro e w10 ⟨u2, rfl, hqS, hsb2, hok2, hf4, hlo2⟩
        obtain ⟨ua2, uc2, rfl, _⟩ := SlF.open hsb2
        have B7b := B7.fr0 hf4
        have c7 := B7b.cell
        have f7 := B7b.frozen
        have l7 := B7b.lt
        have B0b := B07.fr0 hf4
        have c0b := B0b.cell
        have B8 := ((B7b.setCell 3 (.int .i64 x.S)).setCell 4 (.int .i64 x.g)).setCell 5 (.slice ua2 q.1.2.length uc2)
        have e7 := B8.cell
        have hfs := Fr.set3' w10 wr.heap.size 3 4 5 (.int .i64 x.S) (.int .i64 x.g) (.slice ua2 q.1.2.length uc2)
        have hF4 := hF7.trans0 hf4
        have hsz4 := hF.size
        have hFw : Fr [] wr (((w10.setCell ⟨wr.heap.size, 3, none⟩ (.int .i64 x.S)).setCell ⟨wr.heap.size, 4, none⟩ (.int .i64 x.g)).setCell ⟨wr.heap.size, 5, none⟩ (.slice ua2 q.1.2.length uc2)) := (hf7.trans0 hf4).trans1 hfs (Nat.le_refl _)
        have hF5 := hF.trans0 hFw
        have hsb5 := ((hsb2.put (c7 3) (by simp) (.int .i64 x.S)).put ((B7b.setCell 3 (.int .i64 x.S)).cell 4) (by simp) (.int .i64 x.g)).put (((B7b.setCell 3 (.int .i64 x.S)).setCell 4 (.int .i64 x.g)).cell 5) (by simp) (.slice ua2 q.1.2.length uc2)
        have kW := rWith_calls _ Q k ((⟨x.name, true, x.use, x.S, x.g, q.1.2⟩ : Ent), .slice ua2 q.1.2.length uc2) _ (hQ.fr0 hFw) (by omega) (by have := Hql.out; omega) ⟨hsb5, okH.loc hrow.2 hok2 hlo2 (fun k hk => Nat.lt_of_lt_of_le (hQ.low k hk) hf7.size)⟩
        unfold enV at kW
        simp only at kW
        have B0w := B0.fr0 hFw
        have Hent : Hid (wrE fr lo x = (⟨x.name, true, x.use, x.S, x.g, q.1.2⟩ : Ent)) := hidIt (by unfold wrE; rw [if_pos hon, hq, hqS]; rw [← hon])
        clear hfs hsb5 hsb2 hF7 hf7 hF4 B8 c0 d0 d1 d2 d3 d4 d5
        go_wp2_with fail
        refine kW.mono ?_
        rintro e w11 ⟨v', rfl, hv', hf11⟩
        go_wp2
        go_roundw
        case rel => exact ⟨k + 1, _, by omega, by go_num, hv', by rw [← Hent.out]; exact Hstep.out _, B0w.fr0 hf11, hF5.trans0 hf11⟩
        case measure => have := Hk.out; simp [intOf]; omega
      | false =>
        rw [hon] at B7 hf7 hF7 B07 d1
        have c7 := B7.cell
        have hsame := hidIt (Hsame.out (by unfold wrE; rw [hon]; rfl))
        have hQ7 := hQ.fr0 hf7
        clear Hstep Hsame hrb
        go_wp2
        go_roundw
        case rel => exact ⟨k + 1, Q, by omega, by go_num, hQ7, hsame.out, B07, hF7⟩
        case measure => have := Hk.out; simp [intOf]; omega
    · have hke : k = E.length := by omega
      subst hke
      rw [midP_all] at hQE
      have hqi : ¬ (E.length : Int) < Q.length := by omega
      clear hQl
      go_wp2
      go_ret2
      exact ⟨_, Q, rfl, hQ, hQE, hF⟩
set_option maxRecDepth 100000 in
set_option maxHeartbeats 3200000 in
theorem rDo_rz (v : Value) (P : List (Ent × Value)) (s t : List UInt8) (sec gr fr lo : Int) (on : Bool) (w : World) (hv : RefE H w v P) (hok : OkD (P.map (·.1))) (hw : wfD ⟨6, s, t, sec, gr, fr, lo, on⟩) (hs : okSec sec = true) :
    Calls Tryz.prog 10 #[v, opdV ⟨6, s, t, sec, gr, fr, lo, on⟩] w (refPost H (allE (P.map (·.1)) ((rzE sec)), 0) w) := by
  have h8 : P.length ≤ 8 := by have := hok.few; simpa using this
  obtain ⟨_, _, _, _, hlo, _, _⟩ := hw
  simp only at hlo
  have hokP : ∀ p ∈ P.map (·.1), OkE p := hok.all
  have hf0 := (Fr.refl [] w).alloc (.cells #[.int .i64 6, strL s, strL t, .int .i64 sec, .int .i64 gr, .int .i64 fr, .int .i64 lo, .bool on] 36)
  have B0 := Blk.new w [.int .i64 6, strL s, strL t, .int .i64 sec, .int .i64 gr, .int .i64 fr, .int .i64 lo, .bool on] 36
  have hv0 := hv.fr0 hf0
  have c0 := B0.cell
  obtain ⟨E, hE⟩ : ∃ E, P.map (·.1) = E := ⟨_, rfl⟩
  have hEl : E.length ≤ 8 := by rw [← hE]; simpa using h8
  rw [hE] at hokP ⊢
  clear hok
  have hs2 : 0 ≤ sec ∧ sec ≤ 4096 := by simpa [okSec] using hs
  have hs3 : ¬ sec < 0 := by omega
  have hs4 : ¬ 4096 < sec := by omega
  clear hs
  unfold opdV opdC
  go_enter Tryz.func10, Tryz.ntmps10
  go_wp2
  go_loopw [0, 8, 9] (fun u i _ wr => ∃ (k : Nat) (Q : List (Ent × Value)), k ≤ E.length ∧ i = .int .i64 k ∧ RefE H wr u Q ∧ Q.map (·.1) = midP E ((rzE sec)) k ∧ Blk wr w.heap.size [.int .i64 6, strL s, strL t, .int .i64 sec, .int .i64 gr, .int .i64 fr, .int .i64 lo, .bool on] 36 ∧ Fr [] w wr) (fun _ i _ _ => E.length - (intOf i).toNat)
  case atStart => exact ⟨0, P, Nat.zero_le _, rfl, hv0, by rw [hE]; simp [midP], B0, hf0⟩
  case round =>
    clear B0 c0 hv0 hf0
    obtain ⟨k, Q, hk, rfl, hQ, hQE, B0, hF⟩ := hrel
    have hQl : Q.length = E.length := by
      have := congrArg List.length hQE
      rw [List.length_map, midP_len hk] at this
      exact this
    have c0 := B0.cell
    have l0 := B0.lt
    obtain ⟨a, cap, rfl, hlc, hcm, _⟩ := hQ.sl.open
    by_cases hlt : k < E.length
    · have hlt2 : k < Q.length := by omega
      obtain ⟨b, off, rfl, hb, d0, d1, d2, d3, d4, d5⟩ := SlE.at hQ.sl hlt2
      have hg : Q.getD k zP = Q[k] := by rw [List.getD_eq_getElem?_getD, List.getElem?_eq_getElem hlt2]; rfl
      have hx : (Q[k]).1 = E[k] := by
        have h1 := midP_get (f := (rzE sec)) hlt (by rw [midP_len hk]; exact hlt)
        rw [← h1]
        simp [← hQE]
      obtain ⟨qa, qn, qc, hqe0⟩ := enT (H := H) wr (Q[k])
      have hrow := hQ.rows _ (List.getElem_mem hlt2)
      have hqe := hqe0 hrow
      rw [hg] at d0 d1 d2 d3 d4 d5
      rw [hqe] at d5
      unfold rowP at hrow
      rw [hqe] at hrow
      rw [hx] at hrow d0 d1 d2 d3 d4
      have hokx := hokP _ (List.getElem_mem hlt)
      have Hstep : Hid (∀ u' : Value, (Q.set k ((rzE sec) (E[k]), u')).map (·.1) = midP E ((rzE sec)) (k + 1)) := hidIt (fun u' => by rw [List.map_set, hQE, midP_step hlt])
      have Hsame : Hid ((rzE sec) (E[k]) = E[k] → Q.map (·.1) = midP E ((rzE sec)) (k + 1)) := hidIt (fun h => by
        rw [← midP_step hlt, h, hQE]
        have h1 := midP_get (f := (rzE sec)) hlt (by rw [midP_len hk]; exact hlt)
        apply List.ext_getElem
        · simp
        · intro i g1 g2
          rw [List.getElem_set]
          split
          · rename_i e; subst e; exact h1
          · rfl)
      clear hx hqe hqe0 hg hQE
      have Hk : Hid (k < E.length) := hidIt hlt
      have Hql := hidIt hQl
      have hlq : (k : Int) < Q.length := by omega
      clear hQl
      generalize E[k] = x at *
      have B7 := Blk.new wr [strL x.name, .bool x.on, .bool x.use, .int .i64 x.S, .int .i64 x.g, .slice qa qn qc] 76
      have hf7 := (Fr.refl [] wr).alloc (.cells #[strL x.name, .bool x.on, .bool x.use, .int .i64 x.S, .int .i64 x.g, .slice qa qn qc] 76)
      have hF7 := hF.trans0 hf7
      have B07 := B0.fr0 hf7
      have hrb : RefB (wr.alloc (.cells #[strL x.name, .bool x.on, .bool x.use, .int .i64 x.S, .int .i64 x.g, .slice qa qn qc] 76)) (rb x.S x.g (.slice qa qn qc)) x.S x.g x.l := ⟨⟨_, rfl, SlF.fr0 hrow.1 hf7, hrow.2.1⟩, hokx.size, hokx.pow, hokx.len⟩
      have kS := rResizeL_calls x.S x.g (.slice qa qn qc) x.l 0 sec _ hrb
      generalize hq : doS x.g (x.S, x.l) (2, 0, sec) = q at *
      unfold rb at kS
      go_wp2_with fail
      refine kS.mono ?_
      rintro e w10 ⟨u2, rfl, hsb2, hok2, hf4, hlo2⟩
      obtain ⟨ua2, uc2, rfl, _⟩ := SlF.open hsb2
      have B7b := B7.fr0 hf4
      have c7 := B7b.cell
      have f7 := B7b.frozen
      have l7 := B7b.lt
      have B0b := B07.fr0 hf4
      have c0b := B0b.cell
      have B8 := ((B7b.setCell 3 (.int .i64 q.1.1)).setCell 4 (.int .i64 x.g)).setCell 5 (.slice ua2 q.1.2.length uc2)
      have e7 := B8.cell
      have hfs := Fr.set3' w10 wr.heap.size 3 4 5 (.int .i64 q.1.1) (.int .i64 x.g) (.slice ua2 q.1.2.length uc2)
      have hF4 := hF7.trans0 hf4
      have hsz4 := hF.size
      have hFw : Fr [] wr (((w10.setCell ⟨wr.heap.size, 3, none⟩ (.int .i64 q.1.1)).setCell ⟨wr.heap.size, 4, none⟩ (.int .i64 x.g)).setCell ⟨wr.heap.size, 5, none⟩ (.slice ua2 q.1.2.length uc2)) := (hf7.trans0 hf4).trans1 hfs (Nat.le_refl _)
      have hF5 := hF.trans0 hFw
      have hsb5 := ((hsb2.put (c7 3) (by simp) (.int .i64 q.1.1)).put ((B7b.setCell 3 (.int .i64 q.1.1)).cell 4) (by simp) (.int .i64 x.g)).put (((B7b.setCell 3 (.int .i64 q.1.1)).setCell 4 (.int .i64 x.g)).cell 5) (by simp) (.slice ua2 q.1.2.length uc2)
      have kW := rWith_calls _ Q k ((⟨x.name, x.on, x.use, q.1.1, x.g, q.1.2⟩ : Ent), .slice ua2 q.1.2.length uc2) _ (hQ.fr0 hFw) (by omega) (by have := Hql.out; omega) ⟨hsb5, okH.loc hrow.2 hok2 hlo2 (fun k hk => Nat.lt_of_lt_of_le (hQ.low k hk) hf7.size)⟩
      unfold enV at kW
      simp only at kW
      have B0w := B0.fr0 hFw
      have Hent : Hid (rzE sec x = (⟨x.name, x.on, x.use, q.1.1, x.g, q.1.2⟩ : Ent)) := hidIt (by unfold rzE; rw [hq])
      clear hfs hsb5 hsb2 hF7 hf7 hF4 B8 c0 d0 d1 d2 d3 d4 d5
      go_wp2_with fail
      refine kW.mono ?_
      rintro e w11 ⟨v', rfl, hv', hf11⟩
      go_wp2
      go_roundw
      case rel => exact ⟨k + 1, _, by omega, by go_num, hv', by rw [← Hent.out]; exact Hstep.out _, B0w.fr0 hf11, hF5.trans0 hf11⟩
      case measure => have := Hk.out; simp [intOf]; omega
    · have hke : k = E.length := by omega
      subst hke
      rw [midP_all] at hQE
      have hqi : ¬ (E.length : Int) < Q.length := by omega
      clear hQl
      go_wp2
      go_ret2
      exact ⟨_, Q, rfl, hQ, hQE, hF⟩
end Go.Proofs.YtiifmakhfpllnaaGreat

namespace Go.Proofs.YtiifmakhfpllnaaGreat
open Go.RowKit Go.Maps
attribute [local go_sem] cells_str store_str eql_str lss_str guard_str
variable {H : List Nat}

set_option maxRecDepth 100000 in
set_option maxHeartbeats 1600000 in
theorem rDo_ad (v : Value) (P : List (Ent × Value)) (s t : List UInt8) (sec gr fr lo : Int) (on : Bool) (w : World) (hv : RefE H w v P) (h8 : P.length ≤ 8) (hw : wfD ⟨0, s, t, sec, gr, fr, lo, on⟩) :
    Calls Tryz.prog 10 #[v, opdV ⟨0, s, t, sec, gr, fr, lo, on⟩] w (refPost H (addO (P.map (·.1)) ⟨0, s, t, sec, gr, fr, lo, on⟩) w) := by
  have hf0 := (Fr.refl [] w).alloc (.cells #[.int .i64 0, strL s, strL t, .int .i64 sec, .int .i64 gr, .int .i64 fr, .int .i64 lo, .bool on] 36)
  have c0 := (Blk.new w [.int .i64 0, strL s, strL t, .int .i64 sec, .int .i64 gr, .int .i64 fr, .int .i64 lo, .bool on] 36).cell
  have key := rAdd_calls v P ⟨0, s, t, sec, gr, fr, lo, on⟩ _ (hv.fr0 hf0) h8 hw
  generalize addO (P.map (·.1)) ⟨0, s, t, sec, gr, fr, lo, on⟩ = R at *
  unfold opdV opdC at key ⊢
  go_enter Tryz.func10, Tryz.ntmps10
  go_wp2_with fail
  refine key.mono ?_
  rintro e w1 ⟨v', P', rfl, hv', hR, hf⟩
  go_wp2
  go_ret2
  exact ⟨_, P', rfl, hv', hR, hf0.trans0 hf⟩
set_option maxRecDepth 100000 in
set_option maxHeartbeats 1600000 in
theorem rDo_one (k : Int) (v : Value) (P : List (Ent × Value)) (s t : List UInt8) (sec gr fr lo : Int) (on : Bool) (w : World) (hk : k = 1 ∨ k = 2 ∨ k = 3 ∨ k = 4) (hv : RefE H w v P) (hok : OkD (P.map (·.1))) (hw : wfD ⟨k, s, t, sec, gr, fr, lo, on⟩) :
    Calls Tryz.prog 10 #[v, opdV ⟨k, s, t, sec, gr, fr, lo, on⟩] w (refPost H (runD (P.map (·.1)) ⟨k, s, t, sec, gr, fr, lo, on⟩) w) := by
  have hf0 := (Fr.refl [] w).alloc (.cells #[.int .i64 k, strL s, strL t, .int .i64 sec, .int .i64 gr, .int .i64 fr, .int .i64 lo, .bool on] 36)
  have c0 := (Blk.new w [.int .i64 k, strL s, strL t, .int .i64 sec, .int .i64 gr, .int .i64 fr, .int .i64 lo, .bool on] 36).cell
  have key := rOne_calls v P ⟨k, s, t, sec, gr, fr, lo, on⟩ _ (hv.fr0 hf0) hok hw hk
  generalize runD (P.map (·.1)) ⟨k, s, t, sec, gr, fr, lo, on⟩ = R at *
  unfold opdV opdC at key ⊢
  clear hok hw
  rcases hk with rfl | rfl | rfl | rfl
  all_goals
    go_enter Tryz.func10, Tryz.ntmps10
    go_wp2_with fail
    refine key.mono ?_
    rintro e w1 ⟨v', P', rfl, hv', hR, hf⟩
    go_wp2
    go_ret2
    exact ⟨_, P', rfl, hv', hR, hf0.trans0 hf⟩
set_option maxRecDepth 100000 in
set_option maxHeartbeats 1600000 in
theorem rDo_rzNo (v : Value) (P : List (Ent × Value)) (s t : List UInt8) (sec gr fr lo : Int) (on : Bool) (w : World) (hv : RefE H w v P) (hs : okSec sec = false) :
    Calls Tryz.prog 10 #[v, opdV ⟨6, s, t, sec, gr, fr, lo, on⟩] w (refPost H (P.map (·.1), 1) w) := by
  have hf0 := (Fr.refl [] w).alloc (.cells #[.int .i64 6, strL s, strL t, .int .i64 sec, .int .i64 gr, .int .i64 fr, .int .i64 lo, .bool on] 36)
  have c0 := (Blk.new w [.int .i64 6, strL s, strL t, .int .i64 sec, .int .i64 gr, .int .i64 fr, .int .i64 lo, .bool on] 36).cell
  have hv0 := hv.fr0 hf0
  unfold opdV opdC
  by_cases h0 : sec < 0
  · clear hs
    go_enter Tryz.func10, Tryz.ntmps10
    go_wp2
    go_ret2
    exact ⟨_, P, rfl, hv0, rfl, hf0⟩
  · have h1 : 4096 < sec := by
      simp [okSec] at hs
      omega
    have h2 : 0 ≤ sec := by omega
    clear hs
    go_enter Tryz.func10, Tryz.ntmps10
    go_wp2
    go_ret2
    exact ⟨_, P, rfl, hv0, rfl, hf0⟩
set_option maxRecDepth 100000 in
set_option maxHeartbeats 1600000 in
theorem rDo_ot (k : Int) (v : Value) (P : List (Ent × Value)) (s t : List UInt8) (sec gr fr lo : Int) (on : Bool) (w : World) (hv : RefE H w v P) (n0 : ¬ k = 0) (n1 : ¬ k = 1) (n2 : ¬ k = 2) (n3 : ¬ k = 3) (n4 : ¬ k = 4) (n5 : ¬ k = 5) (n6 : ¬ k = 6) :
    Calls Tryz.prog 10 #[v, opdV ⟨k, s, t, sec, gr, fr, lo, on⟩] w (refPost H (P.map (·.1), 0) w) := by
  have hf0 := (Fr.refl [] w).alloc (.cells #[.int .i64 k, strL s, strL t, .int .i64 sec, .int .i64 gr, .int .i64 fr, .int .i64 lo, .bool on] 36)
  have c0 := (Blk.new w [.int .i64 k, strL s, strL t, .int .i64 sec, .int .i64 gr, .int .i64 fr, .int .i64 lo, .bool on] 36).cell
  have hv0 := hv.fr0 hf0
  have m0 : (k == 0) = false := by simpa using n0
  have m1 : (k == 1) = false := by simpa using n1
  have m2 : (k == 2) = false := by simpa using n2
  have m3 : (k == 3) = false := by simpa using n3
  have m4 : (k == 4) = false := by simpa using n4
  have m5 : (k == 5) = false := by simpa using n5
  have m6 : (k == 6) = false := by simpa using n6
  clear n0 n1 n2 n3 n4 n5 n6
  unfold opdV opdC
  go_enter Tryz.func10, Tryz.ntmps10
  go_wp2
  go_ret2
  exact ⟨_, P, rfl, hv0, rfl, hf0⟩
theorem rDoD_calls (v : Value) (P : List (Ent × Value)) (o : OpD) (w : World) (hv : RefE H w v P) (hok : OkD (P.map (·.1))) (hw : wfD o) : Calls Tryz.prog 10 #[v, opdV o] w (refPost H (runD (P.map (·.1)) o) w) := by
  have h8 : P.length ≤ 8 := by have := hok.few; simpa using this
  obtain ⟨k, s, t, sec, gr, fr, lo, on⟩ := o
  by_cases n0 : k = 0
  · subst n0; exact rDo_ad v P s t sec gr fr lo on w hv h8 hw
  by_cases n1 : k = 1
  · exact rDo_one k v P s t sec gr fr lo on w (.inl n1) hv hok hw
  by_cases n2 : k = 2
  · exact rDo_one k v P s t sec gr fr lo on w (.inr (.inl n2)) hv hok hw
  by_cases n3 : k = 3
  · exact rDo_one k v P s t sec gr fr lo on w (.inr (.inr (.inl n3))) hv hok hw
  by_cases n4 : k = 4
  · exact rDo_one k v P s t sec gr fr lo on w (.inr (.inr (.inr n4))) hv hok hw
  by_cases n5 : k = 5
  · subst n5; exact rDo_wr v P s t sec gr fr lo on w hv hok hw
  by_cases n6 : k = 6
  · subst n6
    have hR : runD (P.map (·.1)) ⟨6, s, t, sec, gr, fr, lo, on⟩ = (if okSec sec = true then (allE (P.map (·.1)) (rzE sec), 0) else (P.map (·.1), 1)) := rfl
    rw [hR]
    cases hs : okSec sec with
    | true => exact rDo_rz v P s t sec gr fr lo on w hv hok hw hs
    | false => exact rDo_rzNo v P s t sec gr fr lo on w hv hs
  · have hR : runD (P.map (·.1)) ⟨k, s, t, sec, gr, fr, lo, on⟩ = (P.map (·.1), 0) := by simp [runD, n0, n1, n2, n3, n4, n5, n6]
    rw [hR]
    exact rDo_ot k v P s t sec gr fr lo on w hv n0 n1 n2 n3 n4 n5 n6
end Go.Proofs.YtiifmakhfpllnaaGreat
