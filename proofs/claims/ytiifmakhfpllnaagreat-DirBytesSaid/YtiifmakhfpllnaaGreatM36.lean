/-
  ref11: one: switch, clear.
-/
import Derived.Test.YtiifmakhfpllnaaGreatM35
import Derived.Test.YtiifmakhfpllnaaGreatM29
import Derived.Test.YtiifmakhfpllnaaGreatM34
namespace Go.Proofs.YtiifmakhfpllnaaGreat
open Go.RowKit Go.Maps
theorem RefB.un {w : World} {S g : Nat} {u : Value} {l : List Bool} (h : RefB w (rb S g u) S g l) : SlB w u l ∧ okV u := by
  obtain ⟨u1, h1, h2, h3⟩ := h.row
  have : u = u1 := by
    have := (Value.agg.inj h1)
    simpa using this
  subst this
  exact ⟨h2, h3⟩
/-- a row that lies in another block than the one that turns -/
theorem loc_keep {w w10 w' : World} {u u' : Value} {l l' : List Bool} {bx W : Nat} (hu : SlB w u l) (hl : l'.length = l.length) (h' : SlB w10 u' l') (hlo : u' = u ∨ ∀ k, u'.ownBlock = some k → W ≤ k) (h1 : w.heap.size ≤ bx) (h2 : bx < W) (hf : Fr [bx] w10 w') : SlB w' u' l' := by
  rcases hlo with rfl | h
  · obtain ⟨a, cap, rfl, _, _, hc⟩ := hu
    rcases hc with hc | ⟨b, off, rfl, hb, _⟩
    · have hl0 : l = [] := by
        cases l with
        | nil => rfl
        | cons x l => simp at hc
      subst hl0
      have : l' = [] := List.eq_nil_of_length_eq_zero hl
      subst this
      obtain ⟨a', cap', h3, h4, h5, _⟩ := h'
      exact ⟨a', cap', h3, h4, h5, .inl rfl⟩
    · exact SlF.fr h' hf fun k hk => by
        have : b = k := by simpa [Value.ownBlock] using hk
        subst this
        simp
        omega
  · exact SlF.fr h' hf fun k hk => by
      have := h k hk
      simp
      omega
attribute [local go_sem] cells_str store_str eql_str lss_str guard_str
variable {H : List Nat}
set_option maxRecDepth 100000 in
set_option maxHeartbeats 1600000 in
theorem rOne_sw (v : Value) (P : List (Ent × Value)) (s t : List UInt8) (sec gr fr lo : Int) (on : Bool) (k : Nat) (w : World) (hv : RefE H w v P) (h8 : P.length ≤ 8) (hi : idxE (P.map (·.1)) s = some k) :
    Calls Tryz.prog 39 #[v, opdV ⟨2, s, t, sec, gr, fr, lo, on⟩] w (withPost2 H w (P.set k (onE on (P[k]'(by obtain ⟨h, _⟩ := idxE_some hi; simpa using h)).1, (P[k]'(by obtain ⟨h, _⟩ := idxE_some hi; simpa using h)).2))) := by
  have hk : k < P.length := by
    obtain ⟨hkE, _, _⟩ := idxE_some hi
    simpa using hkE
  obtain ⟨a, cap, rfl, hlc, hcm, _⟩ := hv.sl.open
  have hf0 := (Fr.refl [] w).alloc (.cells #[.int .i64 2, strL s, strL t, .int .i64 sec, .int .i64 gr, .int .i64 fr, .int .i64 lo, .bool on] 36)
  have B0 := Blk.new w [.int .i64 2, strL s, strL t, .int .i64 sec, .int .i64 gr, .int .i64 fr, .int .i64 lo, .bool on] 36
  have c0 := B0.cell
  have hv1 := hv.fr0 hf0
  obtain ⟨b, off, rfl, hb, d0, d1, d2, d3, d4, d5⟩ := SlE.at hv1.sl hk
  have hg : P.getD k zP = P[k] := by rw [List.getD_eq_getElem?_getD, List.getElem?_eq_getElem hk]; rfl
  rw [hg] at d0 d1 d2 d3 d4 d5
  obtain ⟨qa, qn, qc, hqe0⟩ := enT (H := H) w (P[k])
  have hrow := hv.rows _ (List.getElem_mem hk)
  have hqe := hqe0 hrow
  rw [hqe] at d5
  obtain ⟨x, hx⟩ : ∃ x, (P[k]).1 = x := ⟨_, rfl⟩
  rw [hx] at d0 d1 d2 d3 d4
  unfold rowP at hrow
  rw [hqe, hx] at hrow
  have hki : idxI (some k) = (k : Int) := rfl
  clear hg hqe0
  rw [hx, hqe]
  have hF8 := hf0.alloc (.cells #[strL x.name, .bool on, .bool x.use, .int .i64 x.S, .int .i64 x.g, .slice qa qn qc] 76)
  have kW := rWith_calls _ P k (onE on x, .slice qa qn qc) _ (hv.fr0 hF8) hk (by omega) ⟨SlF.fr0 hrow.1 hF8, hrow.2⟩
  unfold enV onE at kW
  simp only at kW
  unfold opdV opdC
  go_enter Tryz.func39, Tryz.ntmps39
  go_wp2_with fail
  refine (rFind_calls _ P s _ hv1.sl (by omega)).mono ?_
  rintro e w9 ⟨rfl, hw9⟩
  subst hw9
  rw [hi, hki]
  clear hv1 hi hrow
  go_wp2_with fail
  refine kW.mono ?_
  rintro e w10 ⟨v', rfl, hv', hf10⟩
  go_wp2
  go_ret2
  exact ⟨_, rfl, hv', hF8.trans0 hf10⟩
set_option maxRecDepth 100000 in
set_option maxHeartbeats 1600000 in
theorem rOne_cl (v : Value) (P : List (Ent × Value)) (s t : List UInt8) (sec gr fr lo : Int) (on : Bool) (k : Nat) (w : World) (hv : RefE H w v P) (h8 : P.length ≤ 8) (hi : idxE (P.map (·.1)) s = some k) (hok : ∀ p ∈ P, OkE p.1) :
    Calls Tryz.prog 39 #[v, opdV ⟨3, s, t, sec, gr, fr, lo, on⟩] w fun e w' => ∃ (u : Value) (Q : List (Ent × Value)), withPost2 H w Q e w' ∧ ∃ hk : k < P.length, Q = P.set k (clrE (P[k]).1, u) := by
  have hk : k < P.length := by
    obtain ⟨hkE, _, _⟩ := idxE_some hi
    simpa using hkE
  obtain ⟨a, cap, rfl, hlc, hcm, _⟩ := hv.sl.open
  have hf0 := (Fr.refl [] w).alloc (.cells #[.int .i64 3, strL s, strL t, .int .i64 sec, .int .i64 gr, .int .i64 fr, .int .i64 lo, .bool on] 36)
  have B0 := Blk.new w [.int .i64 3, strL s, strL t, .int .i64 sec, .int .i64 gr, .int .i64 fr, .int .i64 lo, .bool on] 36
  have c0 := B0.cell
  have hv1 := hv.fr0 hf0
  obtain ⟨b, off, rfl, hb, d0, d1, d2, d3, d4, d5⟩ := SlE.at hv1.sl hk
  have hg : P.getD k zP = P[k] := by rw [List.getD_eq_getElem?_getD, List.getElem?_eq_getElem hk]; rfl
  rw [hg] at d0 d1 d2 d3 d4 d5
  obtain ⟨qa, qn, qc, hqe0⟩ := enT (H := H) w (P[k])
  have hrow := hv.rows _ (List.getElem_mem hk)
  have hqe := hqe0 hrow
  rw [hqe] at d5
  obtain ⟨x, hx⟩ : ∃ x, (P[k]).1 = x := ⟨_, rfl⟩
  rw [hx] at d0 d1 d2 d3 d4
  unfold rowP at hrow
  rw [hqe, hx] at hrow
  have hki : idxI (some k) = (k : Int) := rfl
  clear hg hqe0
  have hokx := hok _ (List.getElem_mem hk)
  rw [hx] at hokx
  have B7 : Blk ((w.alloc (.cells #[.int .i64 3, strL s, strL t, .int .i64 sec, .int .i64 gr, .int .i64 fr, .int .i64 lo, .bool on] 36)).alloc (.cells #[strL x.name, .bool x.on, .bool x.use, .int .i64 x.S, .int .i64 x.g, .slice qa qn qc] 76)) (w.heap.size + 1) [strL x.name, .bool x.on, .bool x.use, .int .i64 x.S, .int .i64 x.g, .slice qa qn qc] 76 := Blk.new' (by simp) [_, _, _, _, _, _] _
  have B0b := B0.alloc (.cells #[strL x.name, .bool x.on, .bool x.use, .int .i64 x.S, .int .i64 x.g, .slice qa qn qc] 76)
  have hF7 : Fr [] w ((w.alloc (.cells #[.int .i64 3, strL s, strL t, .int .i64 sec, .int .i64 gr, .int .i64 fr, .int .i64 lo, .bool on] 36)).alloc (.cells #[strL x.name, .bool x.on, .bool x.use, .int .i64 x.S, .int .i64 x.g, .slice qa qn qc] 76)) := hf0.alloc _
  have hrb : RefB ((w.alloc (.cells #[.int .i64 3, strL s, strL t, .int .i64 sec, .int .i64 gr, .int .i64 fr, .int .i64 lo, .bool on] 36)).alloc (.cells #[strL x.name, .bool x.on, .bool x.use, .int .i64 x.S, .int .i64 x.g, .slice qa qn qc] 76)) (rb x.S x.g (.slice qa qn qc)) x.S x.g x.l := ⟨⟨_, rfl, SlF.fr0 hrow.1 hF7, hrow.2.1⟩, hokx.size, hokx.pow, hokx.len⟩
  have hSz := hokx.size
  have kS := rSetL_calls x.S x.g (.slice qa qn qc) x.l 0 x.S false _ hrb (by omega)
  rw [if_neg (by simp)] at kS
  have Hql : Hid ((doS x.g (x.S, x.l) (1, 0, x.S)).1.1 = x.S → (doS x.g (x.S, x.l) (1, 0, x.S)).1.2.length = gran x.S x.g) := hidIt (fun h => by
    have := (doS_len (g := x.g) (st := (x.S, x.l)) (o := (1, 0, (x.S : Int))) hSz hokx.len).2
    rw [h] at this
    exact this)
  have hokl := hokx.len
  have hsz0 : ((w.alloc (.cells #[.int .i64 3, strL s, strL t, .int .i64 sec, .int .i64 gr, .int .i64 fr, .int .i64 lo, .bool on] 36)).alloc (.cells #[strL x.name, .bool x.on, .bool x.use, .int .i64 x.S, .int .i64 x.g, .slice qa qn qc] 76)).heap.size = w.heap.size + 2 := by simp
  have hclr : Hid (∀ u : Value, (doS x.g (x.S, x.l) (1, 0, x.S)).1.1 = x.S → (clrE x, u) = ((⟨x.name, x.on, true, x.S, x.g, (doS x.g (x.S, x.l) (1, 0, x.S)).1.2⟩ : Ent), u)) := hidIt (fun u h => by unfold clrE; rw [h])
  clear hrb hokx
  generalize doS x.g (x.S, x.l) (1, 0, x.S) = q at *
  unfold rb at kS
  unfold opdV opdC
  go_enter Tryz.func39, Tryz.ntmps39
  go_wp2_with fail
  refine (rFind_calls _ P s _ hv1.sl (by omega)).mono ?_
  rintro e w9 ⟨rfl, hw9⟩
  subst hw9
  rw [hi, hki]
  clear hv1 hi
  go_wp2_with fail
  refine kS.mono ?_
  rintro e w10 ⟨u2, rfl, hqS, hsb2, hok2, hf4, hlo⟩
  obtain ⟨ua2, uc2, rfl, _⟩ := SlF.open hsb2
  have hF4 := hF7.trans0 hf4
  have B7b := B7.fr0 hf4
  have c7 := B7b.cell
  have f7 := B7b.frozen
  have l7 := B7b.lt
  have c0b := (B0b.fr0 hf4).cell
  have hfs : Fr [w.heap.size + 1] w10 ((((w10.setCell ⟨w.heap.size + 1, 3, none⟩ (.int .i64 x.S)).setCell ⟨w.heap.size + 1, 4, none⟩ (.int .i64 x.g)).setCell ⟨w.heap.size + 1, 5, none⟩ (.slice ua2 q.1.2.length uc2)).setCell ⟨w.heap.size + 1, 2, none⟩ (.bool true)) :=
    (Fr.set3' w10 (w.heap.size + 1) 3 4 5 _ _ _).setCell (.inl (by simp)) _
  have hF5 := hF4.trans1 hfs (by omega)
  have e7 := ((((B7b.setCell 3 (.int .i64 x.S)).setCell 4 (.int .i64 x.g)).setCell 5 (.slice ua2 q.1.2.length uc2)).setCell 2 (.bool true)).cell
  have hp5 : rowP H ((((w10.setCell ⟨w.heap.size + 1, 3, none⟩ (.int .i64 x.S)).setCell ⟨w.heap.size + 1, 4, none⟩ (.int .i64 x.g)).setCell ⟨w.heap.size + 1, 5, none⟩ (.slice ua2 q.1.2.length uc2)).setCell ⟨w.heap.size + 1, 2, none⟩ (.bool true)) (⟨x.name, x.on, true, x.S, x.g, q.1.2⟩, .slice ua2 q.1.2.length uc2) :=
    ⟨loc_keep hrow.1 (by rw [Hql.out hqS, hokl]) hsb2 hlo (by omega) (by rw [hsz0]; omega) hfs, okH.loc hrow.2 hok2 hlo (fun k hk => Nat.lt_of_lt_of_le (hv.low k hk) hF7.size)⟩
  have kW := rWith_calls _ P k (⟨x.name, x.on, true, x.S, x.g, q.1.2⟩, .slice ua2 q.1.2.length uc2) _ (hv.fr0 hF5) hk (by omega) hp5
  unfold enV at kW
  simp only at kW
  go_wp2_with fail
  refine kW.mono ?_
  rintro e w11 ⟨v', rfl, hv', hf10⟩
  go_wp2
  go_ret2
  refine ⟨.slice ua2 q.1.2.length uc2, _, ⟨_, rfl, hv', hF5.trans0 hf10⟩, hk, ?_⟩
  rw [hx, hclr.out _ hqS]
set_option maxRecDepth 100000 in
set_option maxHeartbeats 1600000 in
theorem rOne_mgNo (v : Value) (P : List (Ent × Value)) (s t : List UInt8) (sec gr fr lo : Int) (on : Bool) (k : Nat) (w : World) (hv : RefE H w v P) (h8 : P.length ≤ 8) (hi : idxE (P.map (·.1)) s = some k) (hj : idxE (P.map (·.1)) t = none) :
    Calls Tryz.prog 39 #[v, opdV ⟨4, s, t, sec, gr, fr, lo, on⟩] w (withPost3 H w P 112) := by
  have hk : k < P.length := by
    obtain ⟨hkE, _, _⟩ := idxE_some hi
    simpa using hkE
  obtain ⟨a, cap, rfl, hlc, hcm, _⟩ := hv.sl.open
  have hf0 := (Fr.refl [] w).alloc (.cells #[.int .i64 4, strL s, strL t, .int .i64 sec, .int .i64 gr, .int .i64 fr, .int .i64 lo, .bool on] 36)
  have B0 := Blk.new w [.int .i64 4, strL s, strL t, .int .i64 sec, .int .i64 gr, .int .i64 fr, .int .i64 lo, .bool on] 36
  have c0 := B0.cell
  have hv1 := hv.fr0 hf0
  obtain ⟨b, off, rfl, hb, d0, d1, d2, d3, d4, d5⟩ := SlE.at hv1.sl hk
  have hg : P.getD k zP = P[k] := by rw [List.getD_eq_getElem?_getD, List.getElem?_eq_getElem hk]; rfl
  rw [hg] at d0 d1 d2 d3 d4 d5
  obtain ⟨qa, qn, qc, hqe0⟩ := enT (H := H) w (P[k])
  have hrow := hv.rows _ (List.getElem_mem hk)
  have hqe := hqe0 hrow
  rw [hqe] at d5
  obtain ⟨x, hx⟩ : ∃ x, (P[k]).1 = x := ⟨_, rfl⟩
  rw [hx] at d0 d1 d2 d3 d4
  unfold rowP at hrow
  rw [hqe, hx] at hrow
  have hki : idxI (some k) = (k : Int) := rfl
  clear hg hqe0
  unfold opdV opdC
  go_enter Tryz.func39, Tryz.ntmps39
  go_wp2_with fail
  refine (rFind_calls _ P s _ hv1.sl (by omega)).mono ?_
  rintro e w9 ⟨rfl, hw9⟩
  subst hw9
  rw [hi, hki]
  clear hi
  have hF7 : Fr [] w ((w.alloc (.cells #[.int .i64 4, strL s, strL t, .int .i64 sec, .int .i64 gr, .int .i64 fr, .int .i64 lo, .bool on] 36)).alloc (.cells #[strL x.name, .bool x.on, .bool x.use, .int .i64 x.S, .int .i64 x.g, .slice qa qn qc] 76)) := hf0.alloc _
  have c0b := (B0.alloc (.cells #[strL x.name, .bool x.on, .bool x.use, .int .i64 x.S, .int .i64 x.g, .slice qa qn qc] 76)).cell
  go_wp2_with fail
  refine (rFind_calls _ P t _ (hv.fr0 hF7).sl (by omega)).mono ?_
  rintro e w10 ⟨rfl, hw10⟩
  subst hw10
  rw [hj]
  have hkn : idxI none = -1 := rfl
  rw [hkn]
  go_wp2
  go_ret2
  exact ⟨_, rfl, hv.fr0 hF7, hF7⟩
set_option maxRecDepth 100000 in
set_option maxHeartbeats 1600000 in
theorem rOne_mgS (v : Value) (P : List (Ent × Value)) (s t : List UInt8) (sec gr fr lo : Int) (on : Bool) (k : Nat) (w : World) (hv : RefE H w v P) (h8 : P.length ≤ 8) (hi : idxE (P.map (·.1)) s = some k) (hok : ∀ p ∈ P, OkE p.1) (j : Nat) (hj : idxE (P.map (·.1)) t = some j) (x0 y0 : Ent) (hx0 : ∀ h : k < P.length, (P[k]).1 = x0) (hy0 : ∀ h : j < P.length, (P[j]).1 = y0) (hS : x0.S = y0.S) :
    Calls Tryz.prog 39 #[v, opdV ⟨4, s, t, sec, gr, fr, lo, on⟩] w (fun e w' => ∃ (u : Value) (Q : List (Ent × Value)), withPost2 H w Q e w' ∧ Q = P.set k (mgE y0 x0, u)) := by
  have hk : k < P.length := by
    obtain ⟨hkE, _, _⟩ := idxE_some hi
    simpa using hkE
  obtain ⟨a, cap, rfl, hlc, hcm, _⟩ := hv.sl.open
  have hf0 := (Fr.refl [] w).alloc (.cells #[.int .i64 4, strL s, strL t, .int .i64 sec, .int .i64 gr, .int .i64 fr, .int .i64 lo, .bool on] 36)
  have B0 := Blk.new w [.int .i64 4, strL s, strL t, .int .i64 sec, .int .i64 gr, .int .i64 fr, .int .i64 lo, .bool on] 36
  have c0 := B0.cell
  have hv1 := hv.fr0 hf0
  obtain ⟨b, off, rfl, hb, d0, d1, d2, d3, d4, d5⟩ := SlE.at hv1.sl hk
  have hg : P.getD k zP = P[k] := by rw [List.getD_eq_getElem?_getD, List.getElem?_eq_getElem hk]; rfl
  rw [hg] at d0 d1 d2 d3 d4 d5
  obtain ⟨qa, qn, qc, hqe0⟩ := enT (H := H) w (P[k])
  have hrow := hv.rows _ (List.getElem_mem hk)
  have hqe := hqe0 hrow
  rw [hqe] at d5
  obtain ⟨x, hx⟩ : ∃ x, (P[k]).1 = x := ⟨_, rfl⟩
  rw [hx] at d0 d1 d2 d3 d4
  unfold rowP at hrow
  rw [hqe, hx] at hrow
  have hki : idxI (some k) = (k : Int) := rfl
  clear hg hqe0
  have HS := hidIt hS
  clear hS
  have hj2 : j < P.length := by
    obtain ⟨hkE, _, _⟩ := idxE_some hj
    simpa using hkE
  have hx1 := hx0 hk
  have hy1 := hy0 hj2
  rw [hx] at hx1
  subst hx1
  have hF7 : Fr [] w ((w.alloc (.cells #[.int .i64 4, strL s, strL t, .int .i64 sec, .int .i64 gr, .int .i64 fr, .int .i64 lo, .bool on] 36)).alloc (.cells #[strL x.name, .bool x.on, .bool x.use, .int .i64 x.S, .int .i64 x.g, .slice qa qn qc] 76)) := hf0.alloc _
  have hv7 := hv.fr0 hF7
  have hv7s := hv7.sl
  obtain ⟨jb, joff, hja, hjb, j0, j1, j2, j3, j4, j5⟩ := SlE.at hv7s hj2
  cases hja
  have hgj : P.getD j zP = P[j] := by rw [List.getD_eq_getElem?_getD, List.getElem?_eq_getElem hj2]; rfl
  rw [hgj] at j0 j1 j2 j3 j4 j5
  obtain ⟨ya, yn, yc, hye0⟩ := enT (H := H) w (P[j])
  have hyrow := hv.rows _ (List.getElem_mem hj2)
  have hye := hye0 hyrow
  rw [hye] at j5
  rw [hy1] at j0 j1 j2 j3 j4
  unfold rowP at hyrow
  rw [hye, hy1] at hyrow
  have hokx := hok _ (List.getElem_mem hk)
  rw [hx] at hokx
  have hoky := hok _ (List.getElem_mem hj2)
  rw [hy1] at hoky
  have hkj : idxI (some j) = (j : Int) := rfl
  have B7 : Blk ((w.alloc (.cells #[.int .i64 4, strL s, strL t, .int .i64 sec, .int .i64 gr, .int .i64 fr, .int .i64 lo, .bool on] 36)).alloc (.cells #[strL x.name, .bool x.on, .bool x.use, .int .i64 x.S, .int .i64 x.g, .slice qa qn qc] 76)) (w.heap.size + 1) [strL x.name, .bool x.on, .bool x.use, .int .i64 x.S, .int .i64 x.g, .slice qa qn qc] 76 := Blk.new' (by simp) [_, _, _, _, _, _] _
  have B0b := B0.alloc (.cells #[strL x.name, .bool x.on, .bool x.use, .int .i64 x.S, .int .i64 x.g, .slice qa qn qc] 76)
  have hb7 : b < w.heap.size := by
    obtain ⟨b', off', ha', hb', _⟩ := SlE.at hv.sl hk
    cases ha'
    exact hb'
  clear hgj hye0 hye hok hx0 hy0 hv7s
  unfold opdV opdC
  go_enter Tryz.func39, Tryz.ntmps39
  go_wp2_with fail
  refine (rFind_calls _ P s _ hv1.sl (by omega)).mono ?_
  rintro e w9 ⟨rfl, hw9⟩
  subst hw9
  rw [hi, hki]
  clear hi
  have c0b := B0b.cell
  have c7 := B7.cell
  go_wp2_with fail
  refine (rFind_calls _ P t _ hv7.sl (by omega)).mono ?_
  rintro e w10 ⟨rfl, hw10⟩
  subst hw10
  rw [hj, hkj]
  clear hj hkj hki
  have hrbx : ∀ W, Fr [] ((w.alloc (.cells #[.int .i64 4, strL s, strL t, .int .i64 sec, .int .i64 gr, .int .i64 fr, .int .i64 lo, .bool on] 36)).alloc (.cells #[strL x.name, .bool x.on, .bool x.use, .int .i64 x.S, .int .i64 x.g, .slice qa qn qc] 76)) W → RefB W (rb x.S x.g (.slice qa qn qc)) x.S x.g x.l := fun W h => ⟨⟨_, rfl, SlF.fr0 (SlF.fr0 hrow.1 hF7) h, hrow.2.1⟩, hokx.size, hokx.pow, hokx.len⟩
  have hrby : ∀ W, Fr [] ((w.alloc (.cells #[.int .i64 4, strL s, strL t, .int .i64 sec, .int .i64 gr, .int .i64 fr, .int .i64 lo, .bool on] 36)).alloc (.cells #[strL x.name, .bool x.on, .bool x.use, .int .i64 x.S, .int .i64 x.g, .slice qa qn qc] 76)) W → RefB W (rb y0.S y0.g (.slice ya yn yc)) y0.S y0.g y0.l := fun W h => ⟨⟨_, rfl, SlF.fr0 (SlF.fr0 hyrow.1 hF7) h, hyrow.2.1⟩, hoky.size, hoky.pow, hoky.len⟩
  have kM := fun W (h : Fr [] ((w.alloc (.cells #[.int .i64 4, strL s, strL t, .int .i64 sec, .int .i64 gr, .int .i64 fr, .int .i64 lo, .bool on] 36)).alloc (.cells #[strL x.name, .bool x.on, .bool x.use, .int .i64 x.S, .int .i64 x.g, .slice qa qn qc] 76)) W) => rMergeL_calls x.S x.g (.slice qa qn qc) x.l y0.S y0.g (.slice ya yn yc) y0.l W (hrbx W h) (hrby W h)
  rw [if_pos HS.out, if_pos HS.out] at kM
  unfold rb at kM
  have hz0 : w.heap.size + 2 ≤ ((w.alloc (.cells #[.int .i64 4, strL s, strL t, .int .i64 sec, .int .i64 gr, .int .i64 fr, .int .i64 lo, .bool on] 36)).alloc (.cells #[strL x.name, .bool x.on, .bool x.use, .int .i64 x.S, .int .i64 x.g, .slice qa qn qc] 76)).heap.size := by simp
  clear hrbx hrby hv1 c0 B0 d0 d1 d2 d3 d4 d5 hb j0 j1
  have HmgE : Hid (∀ l2, mrg x.S x.g x.l y0.g y0.l = l2 → mgE y0 x = ⟨x.name, x.on, x.use && y0.use, x.S, x.g, l2⟩) := hidIt (fun l2 h => by unfold mgE; rw [if_pos HS.out, h])
  have hml : (mrg x.S x.g x.l y0.g y0.l).length = x.l.length := by unfold mrg; exact mrgL_len _ _ _ _
  generalize hmr : mrg x.S x.g x.l y0.g y0.l = ml at *
  have Hmr := hidIt hmr
  clear hmr
  replace hml := hidIt hml
  generalize hw1 : (w.alloc (.cells #[.int .i64 4, strL s, strL t, .int .i64 sec, .int .i64 gr, .int .i64 fr, .int .i64 lo, .bool on] 36)).alloc (.cells #[strL x.name, .bool x.on, .bool x.use, .int .i64 x.S, .int .i64 x.g, .slice qa qn qc] 76) = w1 at *
  clear hw1
  have s1 := c7 3
  have s2 := c7 4
  have s3 := c7 5
  have hSS : ∀ W, Fr [] w1.drew W → W.cell? ⟨w.heap.size + 1, 3, none⟩ = some (.int .i64 x.S) ∧ W.cell? ⟨w.heap.size + 1, 4, none⟩ = some (.int .i64 x.g) ∧ W.cell? ⟨w.heap.size + 1, 5, none⟩ = some (.slice qa qn qc) ∧ W.cell? ⟨b, off + j * 6 + 3, none⟩ = some (.int .i64 y0.S) ∧ W.cell? ⟨b, off + j * 6 + 4, none⟩ = some (.int .i64 y0.g) ∧ W.cell? ⟨b, off + j * 6 + 5, none⟩ = some (.slice ya yn yc) := fun W h => by
    have r := h.rules0.1
    exact ⟨(r _ _ (by simp; omega)).trans s1, (r _ _ (by simp; omega)).trans s2, (r _ _ (by simp; omega)).trans s3, (r _ _ hjb).trans j3, (r _ _ hjb).trans j4, (r _ _ hjb).trans j5⟩
  have hFd : Fr [] w1 w1.drew := (Fr.refl [] w1).drew
  go_wp2_with fail
  refine wp_region_B2 (Fr [] w1.drew) [0, 1, 2, 3, 4, 5, 6] 7 11 [(true, 8), (true, 9), (true, 10), (false, 11), (false, 12), (true, 13)] [(false, 7), (true, 8), (true, 9), (true, 10), (false, 12), (true, 13)] (by as_aux_lemma => kernel_rfl) (by as_aux_lemma => kernel_rfl) (Fr.refl _ _) ?_
  simp only [inOrder, List.map_cons, List.map_nil, List.getD_cons_zero, List.getD_cons_succ]
  iterate 1
    refine wpB2_pure fun K hK => ?_
    go_simp
    refine hK _ ?_
    clear hK K
  refine wpB2_val (.agg #[.int .i64 x.S, .int .i64 x.g, .slice qa qn qc]) (by first | rfl | go_simp) (fun X hX => by have cc := hSS X hX; go_simp) ?_
  simp only [Act.put, List.setIfInBounds_toArray, List.set_cons_zero, List.set_cons_succ]
  iterate 4
    refine wpB2_pure fun K hK => ?_
    go_simp
    refine hK _ ?_
    clear hK K
  refine wpB2_val (.agg #[.int .i64 y0.S, .int .i64 y0.g, .slice ya yn yc]) (by first | rfl | go_simp) (fun X hX => by have cc := hSS X hX; go_simp) ?_
  simp only [Act.put, List.setIfInBounds_toArray, List.set_cons_zero, List.set_cons_succ]
  have hbz : w.heap.size + 1 < w1.heap.size := by omega
  clear hSS s1 s2 s3
  refine wpB2_end ?_ ?_
  · refine wpG_one fun K hK => ?_
    go_simp
    refine (kM _ hFd).mono ?_
    rintro e w5 ⟨u2, rfl, hR2, hfm, hlo⟩
    obtain ⟨hsb2, hok2⟩ := hR2.un
    obtain ⟨ua2, uc2, rfl, _⟩ := SlF.open hsb2
    unfold rb
    clear hR2
    refine hK _ _ hfm ?_
    clear hK K
    iterate 3
      refine wpG_pure fun K hK => ?_
      go_simp
      refine hK _ ?_
      clear hK K
    refine wpG_one fun K hK => ?_
    go_simp
    refine hK _ _ (hfm.alloc _) ?_
    clear hK K
    refine wpG_one fun K hK => ?_
    go_simp
    refine hK _ _ (hfm.alloc _) ?_
    clear hK K
    iterate 1
      refine wpG_pure fun K hK => ?_
      go_simp
      refine hK _ ?_
      clear hK K
    refine wpG_end ?_
    have BZ := Blk.new w5 [.int .i64 x.S, .int .i64 x.g, .slice ua2 ml.length uc2] 74
    have hFz : Fr [] w1 (w5.alloc (.cells #[.int .i64 x.S, .int .i64 x.g, .slice ua2 ml.length uc2] 74)) := (hFd.trans0 hfm).alloc _
    have hsbz := SlF.fr0 hsb2 ((Fr.refl [] w5).alloc (.cells #[.int .i64 x.S, .int .i64 x.g, .slice ua2 ml.length uc2] 74))
    have hlo2 : .slice ua2 ml.length uc2 = Value.slice qa qn qc ∨ ∀ k, (Value.slice ua2 ml.length uc2).ownBlock = some k → w1.heap.size ≤ k := hlo
    clear hsb2 hlo kM
    generalize w5.alloc (.cells #[.int .i64 x.S, .int .i64 x.g, .slice ua2 ml.length uc2] 74) = wz at *
    generalize w5.heap.size = nb at *
    have hFw := hF7.trans0 hFz
    have cz := BZ.cell
    have B7z := B7.fr0 hFz
    have c7z := B7z.cell
    have f7z := B7z.frozen
    have l7z := B7z.lt
    have jz2 := (hFz.rules0.1 _ _ hjb).trans j2
    have c0z := (B0b.fr0 hFz).cell
    clear c0b c7 j2 j3 j4 j5 hF7 hFz B7 B0b hv7
    cases hu : x.use with
    | true =>
      have e7 := ((((B7z.setCell 3 (.int .i64 x.S)).setCell 4 (.int .i64 x.g)).setCell 5 (.slice ua2 ml.length uc2)).setCell 2 (.bool y0.use)).cell
      have hfs : Fr [w.heap.size + 1] wz ((((wz.setCell ⟨w.heap.size + 1, 3, none⟩ (.int .i64 x.S)).setCell ⟨w.heap.size + 1, 4, none⟩ (.int .i64 x.g)).setCell ⟨w.heap.size + 1, 5, none⟩ (.slice ua2 ml.length uc2)).setCell ⟨w.heap.size + 1, 2, none⟩ (.bool y0.use)) :=
        (Fr.set3' wz (w.heap.size + 1) 3 4 5 _ _ _).setCell (.inl (by simp)) _
      have hF5 := hFw.trans1 hfs (by omega)
      have hp5 : rowP H ((((wz.setCell ⟨w.heap.size + 1, 3, none⟩ (.int .i64 x.S)).setCell ⟨w.heap.size + 1, 4, none⟩ (.int .i64 x.g)).setCell ⟨w.heap.size + 1, 5, none⟩ (.slice ua2 ml.length uc2)).setCell ⟨w.heap.size + 1, 2, none⟩ (.bool y0.use)) (⟨x.name, x.on, y0.use, x.S, x.g, ml⟩, .slice ua2 ml.length uc2) :=
        ⟨loc_keep hrow.1 hml hsbz hlo2 (by omega) hbz hfs, okH.loc hrow.2 hok2 hlo2 (fun k hk => by have := hv.low k hk; omega)⟩
      have kW := rWith_calls _ P k (⟨x.name, x.on, y0.use, x.S, x.g, ml⟩, .slice ua2 ml.length uc2) _ (hv.fr0 hF5) hk (by omega) hp5
      unfold enV at kW
      simp only at kW
      rw [hu] at c7z
      have Hx : Hid (mgE y0 x = ⟨x.name, x.on, y0.use, x.S, x.g, ml⟩) := hidIt (by rw [HmgE.out ml rfl, hu]; simp)
      clear hp5 hfs hsbz hlo2 hu HmgE
      go_wp2_with fail
      refine kW.mono ?_
      rintro e w11 ⟨v', rfl, hv', hf10⟩
      go_wp2
      go_ret2
      refine ⟨.slice ua2 ml.length uc2, _, ⟨_, rfl, hv', hF5.trans0 hf10⟩, by rw [Hx.out]⟩
    | false =>
      have e7 := ((((B7z.setCell 3 (.int .i64 x.S)).setCell 4 (.int .i64 x.g)).setCell 5 (.slice ua2 ml.length uc2)).setCell 2 (.bool false)).cell
      have hfs : Fr [w.heap.size + 1] wz ((((wz.setCell ⟨w.heap.size + 1, 3, none⟩ (.int .i64 x.S)).setCell ⟨w.heap.size + 1, 4, none⟩ (.int .i64 x.g)).setCell ⟨w.heap.size + 1, 5, none⟩ (.slice ua2 ml.length uc2)).setCell ⟨w.heap.size + 1, 2, none⟩ (.bool false)) :=
        (Fr.set3' wz (w.heap.size + 1) 3 4 5 _ _ _).setCell (.inl (by simp)) _
      have hF5 := hFw.trans1 hfs (by omega)
      have hp5 : rowP H ((((wz.setCell ⟨w.heap.size + 1, 3, none⟩ (.int .i64 x.S)).setCell ⟨w.heap.size + 1, 4, none⟩ (.int .i64 x.g)).setCell ⟨w.heap.size + 1, 5, none⟩ (.slice ua2 ml.length uc2)).setCell ⟨w.heap.size + 1, 2, none⟩ (.bool false)) (⟨x.name, x.on, false, x.S, x.g, ml⟩, .slice ua2 ml.length uc2) :=
        ⟨loc_keep hrow.1 hml hsbz hlo2 (by omega) hbz hfs, okH.loc hrow.2 hok2 hlo2 (fun k hk => by have := hv.low k hk; omega)⟩
      have kW := rWith_calls _ P k (⟨x.name, x.on, false, x.S, x.g, ml⟩, .slice ua2 ml.length uc2) _ (hv.fr0 hF5) hk (by omega) hp5
      unfold enV at kW
      simp only at kW
      rw [hu] at c7z
      have Hx : Hid (mgE y0 x = ⟨x.name, x.on, false, x.S, x.g, ml⟩) := hidIt (by rw [HmgE.out ml rfl, hu]; simp)
      clear hp5 hfs hsbz hlo2 hu HmgE
      go_wp2_with fail
      refine kW.mono ?_
      rintro e w11 ⟨v', rfl, hv', hf10⟩
      go_wp2
      go_ret2
      refine ⟨.slice ua2 ml.length uc2, _, ⟨_, rfl, hv', hF5.trans0 hf10⟩, by rw [Hx.out]⟩
  · refine wpG_one fun K hK => ?_
    go_simp
    refine hK _ _ ((Fr.refl _ _).alloc _) ?_
    clear hK K
    refine wpG_one fun K hK => ?_
    go_simp
    refine (kM _ (hFd.alloc _)).mono ?_
    rintro e w5 ⟨u2, rfl, hR2, hfm, hlo⟩
    obtain ⟨hsb2, hok2⟩ := hR2.un
    obtain ⟨ua2, uc2, rfl, _⟩ := SlF.open hsb2
    unfold rb
    clear hR2
    have B9 : Blk w5 w1.heap.size [.int .i64 0, .int .i64 0, .slice none 0 0] 74 := (Blk.new w1.drew [.int .i64 0, .int .i64 0, .slice none 0 0] 74).fr0 hfm
    have c9 := B9.cell
    have f9 := B9.frozen
    have l9 := B9.lt
    refine hK _ _ (((Fr.refl _ _).alloc _).trans0 hfm) ?_
    clear hK K
    iterate 3
      refine wpG_pure fun K hK => ?_
      go_simp
      refine hK _ ?_
      clear hK K
    have hFs := Fr.set3 w5 w1.heap.size (.int .i64 x.S) (.int .i64 x.g) (.slice ua2 ml.length uc2)
    refine wpG_one fun K hK => ?_
    go_simp
    refine hK _ _ ((((Fr.refl _ _).alloc _).trans0 hfm).trans1 hFs (Nat.le_refl _)) ?_
    clear hK K
    iterate 1
      refine wpG_pure fun K hK => ?_
      go_simp
      refine hK _ ?_
      clear hK K
    refine wpG_end ?_
    have BZ := ((B9.setCell 0 (.int .i64 x.S)).setCell 1 (.int .i64 x.g)).setCell 2 (.slice ua2 ml.length uc2)
    have hFz := (((hFd.alloc (.cells #[.int .i64 0, .int .i64 0, .slice none 0 0] 74)).trans0 hfm).trans1 hFs (Nat.le_refl _))
    have hsbz := SlB.keep hsb2 B9 noB hFs
    have hlo2 : .slice ua2 ml.length uc2 = Value.slice qa qn qc ∨ ∀ k, (Value.slice ua2 ml.length uc2).ownBlock = some k → w1.heap.size ≤ k := by
      rcases hlo with h | h
      · exact .inl h
      · exact .inr fun k hk => by
          have := h k hk
          simp at this
          omega
    clear hsb2 hlo kM B9 c9 f9 l9 hFs
    generalize hwz : ((w5.setCell ⟨w1.heap.size, 0, none⟩ (.int .i64 x.S)).setCell ⟨w1.heap.size, 1, none⟩ (.int .i64 x.g)).setCell ⟨w1.heap.size, 2, none⟩ (.slice ua2 ml.length uc2) = wz at *
    clear hwz
    generalize hnb : w1.heap.size = nb at BZ ⊢
    clear hnb
    have hFw := hF7.trans0 hFz
    have cz := BZ.cell
    have B7z := B7.fr0 hFz
    have c7z := B7z.cell
    have f7z := B7z.frozen
    have l7z := B7z.lt
    have jz2 := (hFz.rules0.1 _ _ hjb).trans j2
    have c0z := (B0b.fr0 hFz).cell
    clear c0b c7 j2 j3 j4 j5 hF7 hFz B7 B0b hv7
    cases hu : x.use with
    | true =>
      have e7 := ((((B7z.setCell 3 (.int .i64 x.S)).setCell 4 (.int .i64 x.g)).setCell 5 (.slice ua2 ml.length uc2)).setCell 2 (.bool y0.use)).cell
      have hfs : Fr [w.heap.size + 1] wz ((((wz.setCell ⟨w.heap.size + 1, 3, none⟩ (.int .i64 x.S)).setCell ⟨w.heap.size + 1, 4, none⟩ (.int .i64 x.g)).setCell ⟨w.heap.size + 1, 5, none⟩ (.slice ua2 ml.length uc2)).setCell ⟨w.heap.size + 1, 2, none⟩ (.bool y0.use)) :=
        (Fr.set3' wz (w.heap.size + 1) 3 4 5 _ _ _).setCell (.inl (by simp)) _
      have hF5 := hFw.trans1 hfs (by omega)
      have hp5 : rowP H ((((wz.setCell ⟨w.heap.size + 1, 3, none⟩ (.int .i64 x.S)).setCell ⟨w.heap.size + 1, 4, none⟩ (.int .i64 x.g)).setCell ⟨w.heap.size + 1, 5, none⟩ (.slice ua2 ml.length uc2)).setCell ⟨w.heap.size + 1, 2, none⟩ (.bool y0.use)) (⟨x.name, x.on, y0.use, x.S, x.g, ml⟩, .slice ua2 ml.length uc2) :=
        ⟨loc_keep hrow.1 hml hsbz hlo2 (by omega) hbz hfs, okH.loc hrow.2 hok2 hlo2 (fun k hk => by have := hv.low k hk; omega)⟩
      have kW := rWith_calls _ P k (⟨x.name, x.on, y0.use, x.S, x.g, ml⟩, .slice ua2 ml.length uc2) _ (hv.fr0 hF5) hk (by omega) hp5
      unfold enV at kW
      simp only at kW
      rw [hu] at c7z
      have Hx : Hid (mgE y0 x = ⟨x.name, x.on, y0.use, x.S, x.g, ml⟩) := hidIt (by rw [HmgE.out ml rfl, hu]; simp)
      clear hp5 hfs hsbz hlo2 hu HmgE
      go_wp2_with fail
      refine kW.mono ?_
      rintro e w11 ⟨v', rfl, hv', hf10⟩
      go_wp2
      go_ret2
      refine ⟨.slice ua2 ml.length uc2, _, ⟨_, rfl, hv', hF5.trans0 hf10⟩, by rw [Hx.out]⟩
    | false =>
      have e7 := ((((B7z.setCell 3 (.int .i64 x.S)).setCell 4 (.int .i64 x.g)).setCell 5 (.slice ua2 ml.length uc2)).setCell 2 (.bool false)).cell
      have hfs : Fr [w.heap.size + 1] wz ((((wz.setCell ⟨w.heap.size + 1, 3, none⟩ (.int .i64 x.S)).setCell ⟨w.heap.size + 1, 4, none⟩ (.int .i64 x.g)).setCell ⟨w.heap.size + 1, 5, none⟩ (.slice ua2 ml.length uc2)).setCell ⟨w.heap.size + 1, 2, none⟩ (.bool false)) :=
        (Fr.set3' wz (w.heap.size + 1) 3 4 5 _ _ _).setCell (.inl (by simp)) _
      have hF5 := hFw.trans1 hfs (by omega)
      have hp5 : rowP H ((((wz.setCell ⟨w.heap.size + 1, 3, none⟩ (.int .i64 x.S)).setCell ⟨w.heap.size + 1, 4, none⟩ (.int .i64 x.g)).setCell ⟨w.heap.size + 1, 5, none⟩ (.slice ua2 ml.length uc2)).setCell ⟨w.heap.size + 1, 2, none⟩ (.bool false)) (⟨x.name, x.on, false, x.S, x.g, ml⟩, .slice ua2 ml.length uc2) :=
        ⟨loc_keep hrow.1 hml hsbz hlo2 (by omega) hbz hfs, okH.loc hrow.2 hok2 hlo2 (fun k hk => by have := hv.low k hk; omega)⟩
      have kW := rWith_calls _ P k (⟨x.name, x.on, false, x.S, x.g, ml⟩, .slice ua2 ml.length uc2) _ (hv.fr0 hF5) hk (by omega) hp5
      unfold enV at kW
      simp only at kW
      rw [hu] at c7z
      have Hx : Hid (mgE y0 x = ⟨x.name, x.on, false, x.S, x.g, ml⟩) := hidIt (by rw [HmgE.out ml rfl, hu]; simp)
      clear hp5 hfs hsbz hlo2 hu HmgE
      go_wp2_with fail
      refine kW.mono ?_
      rintro e w11 ⟨v', rfl, hv', hf10⟩
      go_wp2
      go_ret2
      refine ⟨.slice ua2 ml.length uc2, _, ⟨_, rfl, hv', hF5.trans0 hf10⟩, by rw [Hx.out]⟩
set_option maxRecDepth 100000 in
set_option maxHeartbeats 1600000 in
theorem rOne_mgD (v : Value) (P : List (Ent × Value)) (s t : List UInt8) (sec gr fr lo : Int) (on : Bool) (k : Nat) (w : World) (hv : RefE H w v P) (h8 : P.length ≤ 8) (hi : idxE (P.map (·.1)) s = some k) (hok : ∀ p ∈ P, OkE p.1) (j : Nat) (hj : idxE (P.map (·.1)) t = some j) (x0 y0 : Ent) (hx0 : ∀ h : k < P.length, (P[k]).1 = x0) (hy0 : ∀ h : j < P.length, (P[j]).1 = y0) (hS : ¬ x0.S = y0.S) :
    Calls Tryz.prog 39 #[v, opdV ⟨4, s, t, sec, gr, fr, lo, on⟩] w (withPost3 H w P 1) := by
  have hk : k < P.length := by
    obtain ⟨hkE, _, _⟩ := idxE_some hi
    simpa using hkE
  obtain ⟨a, cap, rfl, hlc, hcm, _⟩ := hv.sl.open
  have hf0 := (Fr.refl [] w).alloc (.cells #[.int .i64 4, strL s, strL t, .int .i64 sec, .int .i64 gr, .int .i64 fr, .int .i64 lo, .bool on] 36)
  have B0 := Blk.new w [.int .i64 4, strL s, strL t, .int .i64 sec, .int .i64 gr, .int .i64 fr, .int .i64 lo, .bool on] 36
  have c0 := B0.cell
  have hv1 := hv.fr0 hf0
  obtain ⟨b, off, rfl, hb, d0, d1, d2, d3, d4, d5⟩ := SlE.at hv1.sl hk
  have hg : P.getD k zP = P[k] := by rw [List.getD_eq_getElem?_getD, List.getElem?_eq_getElem hk]; rfl
  rw [hg] at d0 d1 d2 d3 d4 d5
  obtain ⟨qa, qn, qc, hqe0⟩ := enT (H := H) w (P[k])
  have hrow := hv.rows _ (List.getElem_mem hk)
  have hqe := hqe0 hrow
  rw [hqe] at d5
  obtain ⟨x, hx⟩ : ∃ x, (P[k]).1 = x := ⟨_, rfl⟩
  rw [hx] at d0 d1 d2 d3 d4
  unfold rowP at hrow
  rw [hqe, hx] at hrow
  have hki : idxI (some k) = (k : Int) := rfl
  clear hg hqe0
  have HS := hidIt hS
  clear hS
  have hj2 : j < P.length := by
    obtain ⟨hkE, _, _⟩ := idxE_some hj
    simpa using hkE
  have hx1 := hx0 hk
  have hy1 := hy0 hj2
  rw [hx] at hx1
  subst hx1
  have hF7 : Fr [] w ((w.alloc (.cells #[.int .i64 4, strL s, strL t, .int .i64 sec, .int .i64 gr, .int .i64 fr, .int .i64 lo, .bool on] 36)).alloc (.cells #[strL x.name, .bool x.on, .bool x.use, .int .i64 x.S, .int .i64 x.g, .slice qa qn qc] 76)) := hf0.alloc _
  have hv7 := hv.fr0 hF7
  have hv7s := hv7.sl
  obtain ⟨jb, joff, hja, hjb, j0, j1, j2, j3, j4, j5⟩ := SlE.at hv7s hj2
  cases hja
  have hgj : P.getD j zP = P[j] := by rw [List.getD_eq_getElem?_getD, List.getElem?_eq_getElem hj2]; rfl
  rw [hgj] at j0 j1 j2 j3 j4 j5
  obtain ⟨ya, yn, yc, hye0⟩ := enT (H := H) w (P[j])
  have hyrow := hv.rows _ (List.getElem_mem hj2)
  have hye := hye0 hyrow
  rw [hye] at j5
  rw [hy1] at j0 j1 j2 j3 j4
  unfold rowP at hyrow
  rw [hye, hy1] at hyrow
  have hokx := hok _ (List.getElem_mem hk)
  rw [hx] at hokx
  have hoky := hok _ (List.getElem_mem hj2)
  rw [hy1] at hoky
  have hkj : idxI (some j) = (j : Int) := rfl
  have B7 : Blk ((w.alloc (.cells #[.int .i64 4, strL s, strL t, .int .i64 sec, .int .i64 gr, .int .i64 fr, .int .i64 lo, .bool on] 36)).alloc (.cells #[strL x.name, .bool x.on, .bool x.use, .int .i64 x.S, .int .i64 x.g, .slice qa qn qc] 76)) (w.heap.size + 1) [strL x.name, .bool x.on, .bool x.use, .int .i64 x.S, .int .i64 x.g, .slice qa qn qc] 76 := Blk.new' (by simp) [_, _, _, _, _, _] _
  have B0b := B0.alloc (.cells #[strL x.name, .bool x.on, .bool x.use, .int .i64 x.S, .int .i64 x.g, .slice qa qn qc] 76)
  have hb7 : b < w.heap.size := by
    obtain ⟨b', off', ha', hb', _⟩ := SlE.at hv.sl hk
    cases ha'
    exact hb'
  clear hgj hye0 hye hok hx0 hy0 hv7s
  unfold opdV opdC
  go_enter Tryz.func39, Tryz.ntmps39
  go_wp2_with fail
  refine (rFind_calls _ P s _ hv1.sl (by omega)).mono ?_
  rintro e w9 ⟨rfl, hw9⟩
  subst hw9
  rw [hi, hki]
  clear hi
  have c0b := B0b.cell
  have c7 := B7.cell
  go_wp2_with fail
  refine (rFind_calls _ P t _ hv7.sl (by omega)).mono ?_
  rintro e w10 ⟨rfl, hw10⟩
  subst hw10
  rw [hj, hkj]
  clear hj hkj hki
  have hrbx : ∀ W, Fr [] ((w.alloc (.cells #[.int .i64 4, strL s, strL t, .int .i64 sec, .int .i64 gr, .int .i64 fr, .int .i64 lo, .bool on] 36)).alloc (.cells #[strL x.name, .bool x.on, .bool x.use, .int .i64 x.S, .int .i64 x.g, .slice qa qn qc] 76)) W → RefB W (rb x.S x.g (.slice qa qn qc)) x.S x.g x.l := fun W h => ⟨⟨_, rfl, SlF.fr0 (SlF.fr0 hrow.1 hF7) h, hrow.2.1⟩, hokx.size, hokx.pow, hokx.len⟩
  have hrby : ∀ W, Fr [] ((w.alloc (.cells #[.int .i64 4, strL s, strL t, .int .i64 sec, .int .i64 gr, .int .i64 fr, .int .i64 lo, .bool on] 36)).alloc (.cells #[strL x.name, .bool x.on, .bool x.use, .int .i64 x.S, .int .i64 x.g, .slice qa qn qc] 76)) W → RefB W (rb y0.S y0.g (.slice ya yn yc)) y0.S y0.g y0.l := fun W h => ⟨⟨_, rfl, SlF.fr0 (SlF.fr0 hyrow.1 hF7) h, hyrow.2.1⟩, hoky.size, hoky.pow, hoky.len⟩
  have kM := fun W (h : Fr [] ((w.alloc (.cells #[.int .i64 4, strL s, strL t, .int .i64 sec, .int .i64 gr, .int .i64 fr, .int .i64 lo, .bool on] 36)).alloc (.cells #[strL x.name, .bool x.on, .bool x.use, .int .i64 x.S, .int .i64 x.g, .slice qa qn qc] 76)) W) => rMergeL_calls x.S x.g (.slice qa qn qc) x.l y0.S y0.g (.slice ya yn yc) y0.l W (hrbx W h) (hrby W h)
  rw [if_neg HS.out, if_neg HS.out] at kM
  unfold rb at kM
  have hz0 : w.heap.size + 2 ≤ ((w.alloc (.cells #[.int .i64 4, strL s, strL t, .int .i64 sec, .int .i64 gr, .int .i64 fr, .int .i64 lo, .bool on] 36)).alloc (.cells #[strL x.name, .bool x.on, .bool x.use, .int .i64 x.S, .int .i64 x.g, .slice qa qn qc] 76)).heap.size := by simp
  clear hrbx hrby hv1 c0 B0 d0 d1 d2 d3 d4 d5 hb j0 j1
  
  generalize hw1 : (w.alloc (.cells #[.int .i64 4, strL s, strL t, .int .i64 sec, .int .i64 gr, .int .i64 fr, .int .i64 lo, .bool on] 36)).alloc (.cells #[strL x.name, .bool x.on, .bool x.use, .int .i64 x.S, .int .i64 x.g, .slice qa qn qc] 76) = w1 at *
  clear hw1
  have s1 := c7 3
  have s2 := c7 4
  have s3 := c7 5
  have hSS : ∀ W, Fr [] w1.drew W → W.cell? ⟨w.heap.size + 1, 3, none⟩ = some (.int .i64 x.S) ∧ W.cell? ⟨w.heap.size + 1, 4, none⟩ = some (.int .i64 x.g) ∧ W.cell? ⟨w.heap.size + 1, 5, none⟩ = some (.slice qa qn qc) ∧ W.cell? ⟨b, off + j * 6 + 3, none⟩ = some (.int .i64 y0.S) ∧ W.cell? ⟨b, off + j * 6 + 4, none⟩ = some (.int .i64 y0.g) ∧ W.cell? ⟨b, off + j * 6 + 5, none⟩ = some (.slice ya yn yc) := fun W h => by
    have r := h.rules0.1
    exact ⟨(r _ _ (by simp; omega)).trans s1, (r _ _ (by simp; omega)).trans s2, (r _ _ (by simp; omega)).trans s3, (r _ _ hjb).trans j3, (r _ _ hjb).trans j4, (r _ _ hjb).trans j5⟩
  have hFd : Fr [] w1 w1.drew := (Fr.refl [] w1).drew
  go_wp2_with fail
  refine wp_region_B2 (Fr [] w1.drew) [0, 1, 2, 3, 4, 5, 6] 7 11 [(true, 8), (true, 9), (true, 10), (false, 11), (false, 12), (true, 13)] [(false, 7), (true, 8), (true, 9), (true, 10), (false, 12), (true, 13)] (by as_aux_lemma => kernel_rfl) (by as_aux_lemma => kernel_rfl) (Fr.refl _ _) ?_
  simp only [inOrder, List.map_cons, List.map_nil, List.getD_cons_zero, List.getD_cons_succ]
  iterate 1
    refine wpB2_pure fun K hK => ?_
    go_simp
    refine hK _ ?_
    clear hK K
  refine wpB2_val (.agg #[.int .i64 x.S, .int .i64 x.g, .slice qa qn qc]) (by first | rfl | go_simp) (fun X hX => by have cc := hSS X hX; go_simp) ?_
  simp only [Act.put, List.setIfInBounds_toArray, List.set_cons_zero, List.set_cons_succ]
  iterate 4
    refine wpB2_pure fun K hK => ?_
    go_simp
    refine hK _ ?_
    clear hK K
  refine wpB2_val (.agg #[.int .i64 y0.S, .int .i64 y0.g, .slice ya yn yc]) (by first | rfl | go_simp) (fun X hX => by have cc := hSS X hX; go_simp) ?_
  simp only [Act.put, List.setIfInBounds_toArray, List.set_cons_zero, List.set_cons_succ]
  have hbz : w.heap.size + 1 < w1.heap.size := by omega
  clear hSS s1 s2 s3
  refine wpB2_end ?_ ?_
  · refine wpG_one fun K hK => ?_
    go_simp
    refine (kM _ hFd).mono ?_
    rintro e w5 ⟨u2, rfl, hR2, hfm, hlo⟩
    obtain ⟨hsb2, hok2⟩ := hR2.un
    obtain ⟨ua2, uc2, rfl, _⟩ := SlF.open hsb2
    unfold rb
    clear hR2
    refine hK _ _ hfm ?_
    clear hK K
    iterate 3
      refine wpG_pure fun K hK => ?_
      go_simp
      refine hK _ ?_
      clear hK K
    refine wpG_one fun K hK => ?_
    go_simp
    refine hK _ _ (hfm.alloc _) ?_
    clear hK K
    refine wpG_one fun K hK => ?_
    go_simp
    refine hK _ _ (hfm.alloc _) ?_
    clear hK K
    iterate 1
      refine wpG_pure fun K hK => ?_
      go_simp
      refine hK _ ?_
      clear hK K
    refine wpG_end ?_
    have BZ := Blk.new w5 [.int .i64 x.S, .int .i64 x.g, .slice ua2 x.l.length uc2] 74
    have hFz : Fr [] w1 (w5.alloc (.cells #[.int .i64 x.S, .int .i64 x.g, .slice ua2 x.l.length uc2] 74)) := (hFd.trans0 hfm).alloc _
    have hsbz := SlF.fr0 hsb2 ((Fr.refl [] w5).alloc (.cells #[.int .i64 x.S, .int .i64 x.g, .slice ua2 x.l.length uc2] 74))
    have hlo2 : .slice ua2 x.l.length uc2 = Value.slice qa qn qc ∨ ∀ k, (Value.slice ua2 x.l.length uc2).ownBlock = some k → w1.heap.size ≤ k := hlo
    clear hsb2 hlo kM
    generalize w5.alloc (.cells #[.int .i64 x.S, .int .i64 x.g, .slice ua2 x.l.length uc2] 74) = wz at *
    generalize w5.heap.size = nb at *
    have hF := hF7.trans0 hFz
    have cz := BZ.cell
    go_wp2
    go_ret2
    exact ⟨_, rfl, hv.fr0 hF, hF⟩
  · refine wpG_one fun K hK => ?_
    go_simp
    refine hK _ _ ((Fr.refl _ _).alloc _) ?_
    clear hK K
    refine wpG_one fun K hK => ?_
    go_simp
    refine (kM _ (hFd.alloc _)).mono ?_
    rintro e w5 ⟨u2, rfl, hR2, hfm, hlo⟩
    obtain ⟨hsb2, hok2⟩ := hR2.un
    obtain ⟨ua2, uc2, rfl, _⟩ := SlF.open hsb2
    unfold rb
    clear hR2
    have B9 : Blk w5 w1.heap.size [.int .i64 0, .int .i64 0, .slice none 0 0] 74 := (Blk.new w1.drew [.int .i64 0, .int .i64 0, .slice none 0 0] 74).fr0 hfm
    have c9 := B9.cell
    have f9 := B9.frozen
    have l9 := B9.lt
    refine hK _ _ (((Fr.refl _ _).alloc _).trans0 hfm) ?_
    clear hK K
    iterate 3
      refine wpG_pure fun K hK => ?_
      go_simp
      refine hK _ ?_
      clear hK K
    have hFs := Fr.set3 w5 w1.heap.size (.int .i64 x.S) (.int .i64 x.g) (.slice ua2 x.l.length uc2)
    refine wpG_one fun K hK => ?_
    go_simp
    refine hK _ _ ((((Fr.refl _ _).alloc _).trans0 hfm).trans1 hFs (Nat.le_refl _)) ?_
    clear hK K
    iterate 1
      refine wpG_pure fun K hK => ?_
      go_simp
      refine hK _ ?_
      clear hK K
    refine wpG_end ?_
    have BZ := ((B9.setCell 0 (.int .i64 x.S)).setCell 1 (.int .i64 x.g)).setCell 2 (.slice ua2 x.l.length uc2)
    have hFz := (((hFd.alloc (.cells #[.int .i64 0, .int .i64 0, .slice none 0 0] 74)).trans0 hfm).trans1 hFs (Nat.le_refl _))
    have hsbz := SlB.keep hsb2 B9 noB hFs
    have hlo2 : .slice ua2 x.l.length uc2 = Value.slice qa qn qc ∨ ∀ k, (Value.slice ua2 x.l.length uc2).ownBlock = some k → w1.heap.size ≤ k := by
      rcases hlo with h | h
      · exact .inl h
      · exact .inr fun k hk => by
          have := h k hk
          simp at this
          omega
    clear hsb2 hlo kM B9 c9 f9 l9 hFs
    generalize hwz : ((w5.setCell ⟨w1.heap.size, 0, none⟩ (.int .i64 x.S)).setCell ⟨w1.heap.size, 1, none⟩ (.int .i64 x.g)).setCell ⟨w1.heap.size, 2, none⟩ (.slice ua2 x.l.length uc2) = wz at *
    clear hwz
    generalize hnb : w1.heap.size = nb at BZ ⊢
    clear hnb
    have hF := hF7.trans0 hFz
    have cz := BZ.cell
    go_wp2
    go_ret2
    exact ⟨_, rfl, hv.fr0 hF, hF⟩
end Go.Proofs.YtiifmakhfpllnaaGreat
