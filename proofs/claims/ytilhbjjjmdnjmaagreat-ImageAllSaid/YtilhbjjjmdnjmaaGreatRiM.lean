/-
  The document's image: rows of cells made and copied; a new one.
-/
import Derived.Test.YtilhbjjjmdnjmaaGreatRiL
import Derived.Test.YtilhbjjjmdnjmaaGreatM24
import Derived.Test.YtilhbjjjmdnjmaaGreatM35
namespace Go.Proofs.YtilhbjjjmdnjmaaGreat
open Go.RowKit Go.Maps
attribute [local go_sem] cells_str store_str len_str

theorem OkR.resize {R : RIm} (h : OkR R) {n : Nat} (hn : n ≤ 256) : OkR { R with c := R.c.take n ++ List.replicate (n - R.c.length) zRC } := by
  refine ⟨h.mp, h.m8, h.rm, by show (R.c.take n ++ List.replicate (n - R.c.length) zRC).length ≤ 256; simp; omega, h.sl, h.ss, h.dl, fun x hx h1 => ?_, h.ids2, h.dz⟩
  rcases List.mem_append.1 hx with hx | hx
  · exact h.ids x (List.mem_of_mem_take hx) h1
  · rw [(List.mem_replicate.1 hx).2] at h1
    simp [zRC] at h1
theorem OkR.new {B n r : Nat} (hB : B ≤ 3) (hn : n ≤ 256) (hr : r ≤ 512) : OkR (newRI B n r) := by
  refine ⟨Nat.two_pow_pos _, ?_, hr, by show (List.replicate n zRC).length ≤ 256; simp; omega, by show 0 ≤ 8; omega, fun q hq => (by cases hq), by show 0 ≤ 1000000; omega, fun x hx h1 => ?_, fun q hq => (by cases hq), fun y hy => (by cases hy)⟩
  · show 2 ^ B ≤ 8
    have := Nat.pow_le_pow_right (n := 2) (by omega) hB
    omega
  · rw [(List.mem_replicate.1 hx).2] at h1
    simp [zRC] at h1
theorem rdoE_d {R : RIm} (h : OkR R) (o : OpI) (bel : List By) : (rdoE R o bel).2.d.length ≤ R.d.length + 256 := by
  have hw : ∀ zero x b, (rwriteE zero R x b bel).2.d.length ≤ R.d.length + 256 := fun zero x b => by
    unfold rwriteE
    split
    · show R.d.length ≤ _; omega
    · split
      · show R.d.length ≤ _; omega
      · split
        · show R.d.length ≤ _; omega
        · have := (rwN_keep (zero := zero) (R := R) (a := x.toNat) (l := b.length / 16) (b := b) (bel := bel) R.c.length).2.2.2.2
          have := h.cl
          show (rwN _ _ _ _ _ _ _).d.length ≤ _
          omega
  have hd : ∀ a l k, (rdN R a l k).d.length = R.d.length := fun a l k => by
    induction k with
    | zero => rfl
    | succ k ih =>
      show (if _ then rset (rdN R a l k) k (0, 0) else rdN R a l k).d.length = _
      split
      · exact ih
      · exact ih
  unfold rdoE
  split
  · show R.d.length ≤ _; omega
  · split
    · exact hw _ _ _
    · split
      · unfold rzeroE
        split
        · show R.d.length ≤ _; omega
        · exact hw _ _ _
      · split
        · unfold rdiscE
          split
          · show R.d.length ≤ _; omega
          · show (rdN _ _ _ _).d.length ≤ _
            rw [hd]; omega
        · split
          · unfold rsizeE
            split
            · show R.d.length ≤ _; omega
            · show R.d.length ≤ _; omega
          · split
            · unfold rsnapE
              split
              · split
                · show R.d.length ≤ _; omega
                · split
                  · show R.d.length ≤ _; omega
                  · show R.d.length ≤ _; omega
              · split
                · show R.d.length ≤ _; omega
                · split
                  · show R.d.length ≤ _; omega
                  · show R.d.length ≤ _; omega
            · show R.d.length ≤ _; omega
theorem flat_zRC (n : Nat) : (List.replicate n zRC).flatMap celC = List.replicate (n * 2) (.int .i64 0) := by
  induction n with
  | zero => rfl
  | succ n ih =>
    rw [List.replicate_succ, List.flatMap_cons, ih, show (n + 1) * 2 = n * 2 + 1 + 1 by omega, List.replicate_succ, List.replicate_succ]
    rfl
theorem made_cells (n : Nat) : (madeCells #[Value.int .i64 0, .int .i64 0] (n * 2)).toList = (List.replicate n zRC).flatMap celC := by
  rw [flat_zRC]
  apply List.ext_getElem
  · simp [madeCells]
  · intro k h1 h2
    simp only [madeCells, Array.getElem_toList, Array.getElem_map, Array.getElem_range, List.getElem_replicate]
    have : k % (#[Value.int .i64 0, .int .i64 0] : Array Value).size = 0 ∨ k % (#[Value.int .i64 0, .int .i64 0] : Array Value).size = 1 := by
      show k % 2 = 0 ∨ k % 2 = 1
      omega
    rcases this with e | e
    · rw [e]; rfl
    · rw [e]; rfl
theorem makeC (n : Nat) (w : World) (h : n ≤ 256) : ∃ w', (Instr.makeSlice 33 (.int .i64 (n : Int)) (.int .i64 (n : Int))).run Tryz.prog w = .ok (.slice (some ⟨w.heap.size, 0, none⟩) n n) w' ∧
    w'.ownsRow w.heap.size 86 2 (.slice (some ⟨w.heap.size, 0, none⟩) n n) n ((List.replicate n zRC).flatMap celC) ∧ w.grownBy w' none := by
  obtain ⟨i0, hi0, hz0, hz1, hz2⟩ := info_parts infoRC
  obtain ⟨w2, hrun, hown, hg⟩ := run_make_full (P := Tryz.prog) w w.heap.size 33 86 i0 _ 2 Tryz.underlying33 hi0 hz0 hz1 .i64 .i64 n (by rw [hz2]; omega) (by unfold maxLen; omega) (Nat.le_refl _)
  refine ⟨w2, hrun, ?_, hg⟩
  rw [← made_cells]
  exact hown
theorem run_copy_two {P : Program} (w : World) (dT sT ty elem : TypeId) (g dLen dCap : Nat) (a : Addr) (sLen sCap : Nat) (cur : Array Value) (t : TypeId) (cs : List Value)
    (hu : P.underlying dT = some (.slice elem)) (hs : (P.info? elem).map (·.size) = some 2) (hg : w.heap[g]? = some (.cells cur t (0, 0))) (hn : cs.length = Nat.min sLen dLen * 2)
    (hsrc : ∀ j v, cs[j]? = some v → w.cell? (a.add j) = some v) (hfit : cs.length ≤ cur.size) (h1 : ∀ v ∈ cs, v.oneCell' = true) :
    (Builtin.copy_ #[dT, sT] ty #[.slice (some ⟨g, 0, none⟩) dLen dCap, .slice (some a) sLen sCap]).run P w = .ok (goInt (Nat.min sLen dLen)) (w.setRow g (cs ++ cur.toList.drop cs.length).toArray) := by
  have hl := run_loadCells_list (P := P) w a cs hsrc
  have hst := run_storeCells_at P g 0 t cs 0 cur w hg (by simpa using hfit) h1
  cases hq : P.info? elem with
  | none => simp [hq] at hs
  | some i =>
    have hi : i.size = 2 := by simpa [hq] using hs
    simp [Builtin.copy_, run_underlying hu, Builtin.lenOf, Builtin.firstCells, sizeOf, typeInfo, hq, hi, ← hn, hl, hst]
theorem sizeRC : (Tryz.prog.info? 86).map (·.size) = some 2 := by kernel_rfl
/-- cells copied into a row that has just been made -/
theorem copyC {w : World} {base g n : Nat} (h : w.ownsRow base 86 2 (.slice (some ⟨g, 0, none⟩) n n) n ((List.replicate n zRC).flatMap celC)) {S : Nat → Prop} {a : Option Addr} {cap : Nat} {l : List RCel} (hv : RowW S w celC (.slice a l.length cap) l) (ty : TypeId) :
    ∃ w', (Builtin.copy_ #[33, 33] ty #[.slice (some ⟨g, 0, none⟩) n n, .slice a l.length cap]).run Tryz.prog w = .ok (goInt (Nat.min l.length n)) w' ∧
      w'.ownsRow base 86 2 (.slice (some ⟨g, 0, none⟩) n n) n ((l.take n ++ List.replicate (n - l.length) zRC).flatMap celC) ∧ Fr [g] w w' := by
  cases a with
  | none =>
    have hc := hv.ok _ _ rfl
    subst hc
    have h0 : l = [] := by
      obtain ⟨_, _, hx, h1, _⟩ := SlF.open hv.sl
      cases hx
      exact List.eq_nil_of_length_eq_zero (by omega)
    subst h0
    have hr := run_copy_nil (P := Tryz.prog) w 33 33 ty 86 ⟨g, 0, none⟩ n n Tryz.underlying33 (by rw [sizeRC]; rfl)
    refine ⟨w, ?_, by simpa using h, Fr.refl _ _⟩
    have e : Nat.min ([] : List RCel).length n = 0 := Nat.zero_min n
    rw [e]
    exact hr
  | some ad =>
    rcases h.2 with ⟨h1, _⟩ | ⟨g', cap', cur, hx, hb, hg, hn, hm, hs, ht⟩
    · cases h1
    · cases hx
      have hs' : cur.size = n * 2 := by simpa using hs
      obtain ⟨k, hk⟩ : ∃ k, k = Nat.min l.length n := ⟨_, rfl⟩
      have hkl : k ≤ l.length := by rw [hk]; exact Nat.min_le_left _ _
      have hkn : k ≤ n := by rw [hk]; exact Nat.min_le_right _ _
      have hlen : ((l.take k).flatMap celC).length = k * 2 := by rw [flatC_length, List.length_take, Nat.min_eq_left hkl]
      have hsl := SlF.to 2 (fun _ => rfl) (f := celC) (n := l.length) (l := l) hv.sl (m := k) hkl
      unfold SlF at hsl
      rw [List.length_take, Nat.min_eq_left hkl] at hsl
      obtain ⟨a', c', hav, _, _, hcc⟩ := hsl
      cases hav
      have hr := run_copy_two (P := Tryz.prog) w 33 33 ty 86 g n n ad l.length cap cur 86 ((l.take k).flatMap celC) Tryz.underlying33 sizeRC hg (by rw [hlen, hk]) (fun j u hu => by
        rcases hcc with he | ⟨b0, o0, hab, hb0, hc0⟩
        · rw [he] at hu; cases hu
        · cases hab
          have hadd : (⟨b0, o0, none⟩ : Addr).add j = ⟨b0, o0 + j, none⟩ := by unfold Addr.add; split <;> simp_all
          rw [hadd]
          exact hc0 j u hu) (by rw [hlen, hs']; omega) (fun u hu => by
        obtain ⟨x, _, hx⟩ := List.mem_flatMap.1 hu
        simp only [List.mem_cons, List.not_mem_nil, or_false] at hx
        rcases hx with rfl | rfl <;> rfl)
      refine ⟨_, hr, ?_, fr_setRow _ _⟩
      have ht' : cur.toList = (List.replicate n zRC).flatMap celC := by
        rw [← ht, List.take_of_length_le (by simp; omega)]
      have e : ((l.take k).flatMap celC ++ cur.toList.drop ((l.take k).flatMap celC).length) = (l.take n ++ List.replicate (n - l.length) zRC).flatMap celC := by
        rw [hlen, ht', flat_zRC, List.flatMap_append, flat_zRC, List.drop_replicate]
        have e1 : l.take k = l.take n := by
          rw [hk]
          by_cases hh : l.length ≤ n
          · rw [List.take_of_length_le (by rw [show Nat.min l.length n = l.length from Nat.min_eq_left hh]; exact Nat.le_refl _), List.take_of_length_le hh]
          · rw [show Nat.min l.length n = n from Nat.min_eq_right (by omega)]
        rw [e1]
        have hk2 : n * 2 - k * 2 = (n - l.length) * 2 := by
          have : k = min l.length n := hk
          omega
        rw [hk2]
      have hL : ((l.take n ++ List.replicate (n - l.length) zRC).flatMap celC).length = n * 2 := by
        rw [flatC_length, List.length_append, List.length_take, List.length_replicate]
        omega
      rw [e]
      clear e ht' ht hr hlen hcc
      generalize (l.take n ++ List.replicate (n - l.length) zRC).flatMap celC = L at *
      refine ⟨hL, .inr ⟨g, n, L.toArray, rfl, hb, setRow_heap w _ _ _ _ _ hg, hn, hm, ?_, ?_⟩⟩
      · rw [List.size_toArray, hL]
      · rw [List.toList_toArray, List.take_of_length_le (by rw [hL]; exact Nat.le_refl _)]
/-! ### a new one -/
def newRPost (w : World) (R : RIm) (e : Ending) (w' : World) : Prop := ∃ vc, e = .returned (.tuple #[riV R vc (.slice none 0 0) (.slice none 0 0), .bool true]) ∧ RiW (fun k => w.heap.size ≤ k) w' vc (.slice none 0 0) (.slice none 0 0) R ∧ Fr [] w w'
set_option maxRecDepth 100000 in
set_option maxHeartbeats 1600000 in
theorem rNewR_no (a1 a2 a3 : Int) (w : World) (hno : ¬ okSeat a1 a2 a3) : Calls Tryz.prog 8 #[.int .i64 a1, .int .i64 a2, .int .i64 a3] w fun e w' => e = .returned (.tuple #[.agg #[.int .i64 0, .int .i64 0, .slice none 0 0, .slice none 0 0, .slice none 0 0], .bool false]) ∧ Fr [] w w' := by
  unfold okSeat at hno
  have hfa := (Fr.refl [] w).alloc (.cells #[.int .i64 0, .int .i64 0, .slice none 0 0, .slice none 0 0, .slice none 0 0] 36)
  have B0 := Blk.new w [.int .i64 0, .int .i64 0, .slice none 0 0, .slice none 0 0, .slice none 0 0] 36
  have c0 := B0.cell
  have d0 := B0.cell
  have fin := fun (e : Ending) (he : e = .returned (.tuple #[.agg #[.int .i64 0, .int .i64 0, .slice none 0 0, .slice none 0 0, .slice none 0 0], .bool false])) => hidIt (And.intro he hfa)
  clear B0 hfa
  by_cases h0 : a1 < 0
  case pos =>
    go_enter Tryz.func8, Tryz.ntmps8
    go_wp2
    exact bodyPost_ret (v := .tuple #[.agg #[.int .i64 0, .int .i64 0, .slice none 0 0, .slice none 0 0, .slice none 0 0], .bool false]) (by simp [results, Tryz.results8, go_sem, d0]) rfl (by simpa using (fin _ rfl).out)
  by_cases h1 : 3 < a1
  case pos =>
    go_enter Tryz.func8, Tryz.ntmps8
    go_wp2
    exact bodyPost_ret (v := .tuple #[.agg #[.int .i64 0, .int .i64 0, .slice none 0 0, .slice none 0 0, .slice none 0 0], .bool false]) (by simp [results, Tryz.results8, go_sem, d0]) rfl (by simpa using (fin _ rfl).out)
  by_cases h2 : a2 < 0
  case pos =>
    go_enter Tryz.func8, Tryz.ntmps8
    go_wp2
    exact bodyPost_ret (v := .tuple #[.agg #[.int .i64 0, .int .i64 0, .slice none 0 0, .slice none 0 0, .slice none 0 0], .bool false]) (by simp [results, Tryz.results8, go_sem, d0]) rfl (by simpa using (fin _ rfl).out)
  by_cases h3 : 256 < a2
  case pos =>
    go_enter Tryz.func8, Tryz.ntmps8
    go_wp2
    exact bodyPost_ret (v := .tuple #[.agg #[.int .i64 0, .int .i64 0, .slice none 0 0, .slice none 0 0, .slice none 0 0], .bool false]) (by simp [results, Tryz.results8, go_sem, d0]) rfl (by simpa using (fin _ rfl).out)
  by_cases h4 : a3 < 0
  case pos =>
    go_enter Tryz.func8, Tryz.ntmps8
    go_wp2
    exact bodyPost_ret (v := .tuple #[.agg #[.int .i64 0, .int .i64 0, .slice none 0 0, .slice none 0 0, .slice none 0 0], .bool false]) (by simp [results, Tryz.results8, go_sem, d0]) rfl (by simpa using (fin _ rfl).out)
  have h5 : 512 < a3 := by omega
  go_enter Tryz.func8, Tryz.ntmps8
  go_wp2
  exact bodyPost_ret (v := .tuple #[.agg #[.int .i64 0, .int .i64 0, .slice none 0 0, .slice none 0 0, .slice none 0 0], .bool false]) (by simp [results, Tryz.results8, go_sem, d0]) rfl (by simpa using (fin _ rfl).out)
set_option maxRecDepth 100000 in
set_option maxHeartbeats 1600000 in
theorem rNewR_yes (B n r : Nat) (w : World) (hB : B ≤ 3) (hn : n ≤ 256) (hr : r ≤ 512) : Calls Tryz.prog 8 #[.int .i64 (B : Int), .int .i64 (n : Int), .int .i64 (r : Int)] w (newRPost w (newRI B n r)) := by
  have hfa := (Fr.refl [] w).alloc (.cells #[.int .i64 0, .int .i64 0, .slice none 0 0, .slice none 0 0, .slice none 0 0] 36)
  have B0 := Blk.new w [.int .i64 0, .int .i64 0, .slice none 0 0, .slice none 0 0, .slice none 0 0] 36
  have hz := Fr.size hfa
  have hz1 : (w.alloc (.cells #[.int .i64 0, .int .i64 0, .slice none 0 0, .slice none 0 0, .slice none 0 0] 36)).heap.size = w.heap.size + 1 := by simp
  have hp : ∀ k, k ≤ B → 2 ^ k ≤ 8 := fun k hk => by
    have := Nat.pow_le_pow_right (n := 2) (by omega) (Nat.le_trans hk hB)
    omega
  have hs2 : ∀ k, 2 ^ (k + 1) = 2 ^ k + 2 ^ k := fun k => by rw [Nat.pow_succ]; omega
  generalize hw1 : w.alloc (.cells #[.int .i64 0, .int .i64 0, .slice none 0 0, .slice none 0 0, .slice none 0 0] 36) = w1 at *
  go_enter Tryz.func8, Tryz.ntmps8
  go_wp2_with fail
  try rw [hw1]
  go_loopw [8, 9] (fun m i wr => ∃ k : Nat, k ≤ B ∧ m = .int .i64 ((2 ^ k : Nat) : Int) ∧ i = .int .i64 (k : Int) ∧ Fr [] w1 wr) (fun _ i _ => B - (intOf i).toNat)
  case atStart => exact ⟨0, Nat.zero_le _, rfl, rfl, Fr.refl _ _⟩
  case round =>
    obtain ⟨k, hk, rfl, rfl, hF⟩ := hrel
    have hpk := hp k hk
    have hsk := hidIt (hs2 k)
    by_cases hlt : k < B
    · clear hp hs2
      generalize 2 ^ k = y at *
      go_wp2
      go_roundw
      case rel => exact ⟨k + 1, by omega, by rw [hsk.out]; go_num, by go_num, hF⟩
      case measure => simp [intOf]; omega
    · have hke : k = B := by omega
      subst hke
      clear hp hs2 hsk
      obtain ⟨w2, hrun, hown, hg⟩ := makeC n wr (by omega)
      have hf2 := (Fr.refl [] wr).grown hg (fun x hx => by cases hx)
      have hF3 := hF.trans0 hf2
      have B2 := B0.fr0 hF3
      have hF2 := hfa.trans0 hF3
      have hown' := SlF.of_owns (f := celC) (l := List.replicate n zRC) (by rw [List.length_replicate]; exact hown)
      have d0 := B2.cell
      have g0 := B2.frozen
      have l0 := B2.lt
      have hS : Fr [w.heap.size] w2 (((((w2.setCell ⟨w.heap.size, 0, none⟩ (.int .i64 ((2 ^ k : Nat) : Int))).setCell ⟨w.heap.size, 1, none⟩ (.int .i64 (r : Int))).setCell ⟨w.heap.size, 2, none⟩ (.slice (some ⟨wr.heap.size, 0, none⟩) n n)).setCell ⟨w.heap.size, 3, none⟩ (.slice none 0 0)).setCell ⟨w.heap.size, 4, none⟩ (.slice none 0 0)) :=
        (((((Fr.refl [w.heap.size] w2).setCell (p := ⟨w.heap.size, 0, none⟩) (.inl (by simp)) _).setCell (p := ⟨w.heap.size, 1, none⟩) (.inl (by simp)) _).setCell (p := ⟨w.heap.size, 2, none⟩) (.inl (by simp)) _).setCell (p := ⟨w.heap.size, 3, none⟩) (.inl (by simp)) _).setCell (p := ⟨w.heap.size, 4, none⟩) (.inl (by simp)) _
      have hzr := hF.size
      have hfin : newRPost w (newRI k n r) (.returned (.tuple #[.agg #[.int .i64 ((2 ^ k : Nat) : Int), .int .i64 (r : Int), .slice (some ⟨wr.heap.size, 0, none⟩) n n, .slice none 0 0, .slice none 0 0], .bool true])) (((((w2.setCell ⟨w.heap.size, 0, none⟩ (.int .i64 ((2 ^ k : Nat) : Int))).setCell ⟨w.heap.size, 1, none⟩ (.int .i64 (r : Int))).setCell ⟨w.heap.size, 2, none⟩ (.slice (some ⟨wr.heap.size, 0, none⟩) n n)).setCell ⟨w.heap.size, 3, none⟩ (.slice none 0 0)).setCell ⟨w.heap.size, 4, none⟩ (.slice none 0 0)) := by
        refine ⟨_, rfl, ⟨?_, ⟨[], rfl, RowW.nil _ _ _, fun r hr => (by cases hr)⟩, RowW.nil _ _ _, OkR.new hB hn hr⟩, hF2.trans hS (fun x hx hl => by have := List.mem_singleton.1 hx; omega)⟩
        refine ⟨SlF.frE hown' hS (fun hp j hj hm => ?_), fun n c h => (by cases h), fun hp j hj => ?_⟩
        · have h1 : wr.heap.size = j := by simpa [Value.ownBlock] using hj
          have h2 := List.mem_singleton.1 hm
          omega
        · have h1 : wr.heap.size = j := by simpa [Value.ownBlock] using hj
          omega
      have hf := hidIt hfin
      clear hfin hown hown' hS
      generalize 2 ^ k = y at *
      go_wp2
      refine bodyPost_ret (v := .tuple #[.agg #[.int .i64 (y : Int), .int .i64 (r : Int), .slice (some ⟨wr.heap.size, 0, none⟩) n n, .slice none 0 0, .slice none 0 0], .bool true]) (by simp [results, Tryz.results8, go_sem, d0]) rfl ?_
      have := hf.out
      simpa using this
end Go.Proofs.YtilhbjjjmdnjmaaGreat
