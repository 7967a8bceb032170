/-
  slices.Repeat of one number.
-/
import Derived.Test.YtkammkbjkojfmaaSpMul
import Derived.Test.YtkammkbjkojfmaaSpW1
import Derived.Test.YtkammkbjkojfmaaDrawn
import Derived.Laws.CopyOwn
import Derived.Laws.OwnMore
namespace Go.Proofs.Ytkammkbjkojfmaa
open Go.RowKit Go.Maps

theorem Fr.setRow {w : World} (g : Nat) (cs : Array Value) : Fr [g] w (w.setRow g cs) := ⟨rfl, rfl, rfl, by simp [World.setRow], fun k _ hn => setRow_other w g k cs (fun h => hn (by rw [h]; simp))⟩
theorem wpT_copy {P : Program} {ops : Array Oper} {Q : Exit → Act → World → Prop} {a : Act} {w : World} {rest : List (Bool × Oper)} {o : Oper} (hw : Region.wanted o (yielded ops a.tmps) = true) (d s : Operand) (dT sT : TypeId)
    (ho : o.op = .call { callee := .builtin .copy, args := #[d, s], argTypes := #[dT, sT] }) (elem : TypeId) (hu : P.underlying dT = some (.slice elem)) (hsz : (P.info? elem).map (·.size) = some 1)
    (g off dLen dCap : Nat) (ad : Addr) (sLen sCap : Nat) (hd : a.eval d = .slice (some ⟨g, off, none⟩) dLen dCap) (hs : a.eval s = .slice (some ad) sLen sCap)
    (cur : Array Value) (t : TypeId) (hg : w.heap[g]? = some (.cells cur t (0, 0))) (cs : List Value) (hn : cs.length = Nat.min sLen dLen)
    (hsrc : ∀ j v, cs[j]? = some v → w.cell? (ad.add j) = some v) (hfit : off + cs.length ≤ cur.size) (h1 : ∀ v ∈ cs, v.oneCell' = true)
    (h : wpT P ops Q rest (a.put o.dst (goInt cs.length)) (w.setRow g (cur.toList.take off ++ cs ++ cur.toList.drop (off + cs.length)).toArray)) : wpT P ops Q ((false, o) :: rest) a w := by
  have hrun := run_copy_row (P := P) w dT sT o.type elem g off dLen dCap ad sLen sCap cur t cs hu hsz hg hn hsrc hfit h1
  exact wpT_run hw (by simp only [execOp, ho, resolve, invoke, builtin, Sem.run_bind, Sem.run_pure, Result.andThen_ok, List.map_toArray, List.map_cons, List.map_nil, hd, hs, hrun]) h
theorem sizeInt : (Try.prog.info? 3).map (·.size) = some 1 := by kernel_rfl
theorem rep_cells (c : Nat) (k : Int) : (List.replicate c k).flatMap intC = List.replicate c (Value.int .i64 k) := by
  induction c with
  | zero => rfl
  | succ c ih => rw [List.replicate_succ, List.flatMap_cons, ih]; rfl
set_option maxRecDepth 100000 in
set_option maxHeartbeats 1600000 in
theorem sRep_calls (v : Value) (k : Int) (q : Nat) (w : World) (hv : SlI w v [k]) (h1 : 1 ≤ q) (h2 : q ≤ 65536) : Calls Try.prog 40 #[v, .int .i64 q] w fun e w' => ∃ v', e = .returned v' ∧ SlI w' v' (List.replicate q k) ∧ Fr [] w w' := by
  obtain ⟨a, cap, rfl, hlc, hcm, _⟩ := hv.open
  obtain ⟨b, off, rfl, hb, c0⟩ := SlI.at hv (i := 0) (by simp)
  simp only [List.length_cons, List.length_nil, Nat.zero_add, Nat.add_zero, List.getD_cons_zero] at c0 hv hlc ⊢
  have h3 : IntKind.u64.wrap (q : Int) = (q : Int) := by rw [IntKind.wrap_u64]; omega
  have h5 : ¬ (9223372036854775807 : Int) < (q : Int) := by omega
  have h6 : IntKind.i64.wrap (q : Int) = (q : Int) := IntWalk.i64_in _ (by omega)
  obtain ⟨i0, hi0, hz0, hz1, hz2⟩ := info_parts infoInt
  go_enter Try.func40, Try.ntmps40
  go_wp2_with fail
  refine (Mul_calls q h2 w).mono ?_
  rintro e w1 ⟨rfl, hf1⟩
  obtain ⟨w2, hrun, hown, hg⟩ := run_make_full (P := Try.prog) w1 w1.heap.size 27 3 i0 _ 1 Try.underlying27 hi0 hz0 hz1 .i64 .i64 q (by rw [hz2]; omega) (by unfold maxLen; omega) (Nat.le_refl _)
  have hF2 : Fr [] w w2 := hf1.grown hg (fun x hx => by cases hx)
  have c02 : w2.cell? ⟨b, off, none⟩ = some (.int .i64 k) := (World.cell?_of_block (hF2.block b hb (by simp))).trans c0
  obtain ⟨cur, hg2, hcs⟩ : ∃ cur : Array Value, w2.heap[w1.heap.size]? = some (.cells cur 3 (0, 0)) ∧ cur.size = q := by
    rcases hown.2 with ⟨h, _⟩ | ⟨g', cap', cur, hv', _, hg', _, _, hs', _⟩
    · cases h
    · cases hv'
      exact ⟨cur, hg', by simpa using hs'⟩
  have hmin1 : Nat.min 1 q = 1 := by show min 1 q = 1; omega
  have hcp := run_copy_row (P := Try.prog) w2 27 27 3 3 w1.heap.size 0 q q ⟨b, off, none⟩ 1 cap cur _ [.int .i64 k] Try.underlying27 sizeInt hg2 (by rw [hmin1]; rfl)
    (fun j v hj => by
      cases j with
      | zero => simp at hj; subst hj; simpa [Addr.add] using c02
      | succ j => simp at hj)
    (by rw [hcs]; simpa using h1) (by simp [Value.oneCell'])
  have hF2g : ∀ x, w1.heap.size = x → w.heap.size ≤ x := fun x hx => by have := hf1.size; omega
  have hg3 : (w2.setRow w1.heap.size (cur.toList.take 0 ++ [Value.int .i64 k] ++ cur.toList.drop (0 + [Value.int .i64 k].length)).toArray).heap[w1.heap.size]? = some (.cells ((List.replicate 1 (Value.int .i64 k)) ++ cur.toList.drop 1).toArray 3 (0, 0)) := by
    rw [setRow_heap w2 _ _ _ _ _ hg2]; rfl
  have hF3 : Fr [] w (w2.setRow w1.heap.size (cur.toList.take 0 ++ [Value.int .i64 k] ++ cur.toList.drop (0 + [Value.int .i64 k].length)).toArray) := hF2.trans1 (Fr.setRow _ _) (hF2g _ rfl)
  generalize w2.setRow w1.heap.size (cur.toList.take 0 ++ [Value.int .i64 k] ++ cur.toList.drop (0 + [Value.int .i64 k].length)).toArray = w3 at *
  have hz : (cur.toList.drop 1).length = q - 1 := by simp; omega
  generalize cur.toList.drop 1 = Z at *
  clear hg hown c0 c02 hg2 hf1 hF2 hv hcs
  generalize w1.heap.size = g at *
  go_wp2_with fail
  clear hcp hrun
  go_loopw [8] (fun c wr => ∃ (n : Nat) (Z : List Value), 1 ≤ n ∧ n ≤ q ∧ c = .int .i64 n ∧ wr.heap[g]? = some (.cells ((List.replicate n (Value.int .i64 k)) ++ Z).toArray 3 (0, 0)) ∧ Z.length = q - n ∧ Fr [] w wr) (fun c _ => q - (intOf c).toNat)
  case atStart => exact ⟨1, Z, Nat.le_refl _, h1, rfl, hg3, hz, hF3⟩
  case round =>
    clear hg3 hF3 hz Z
    obtain ⟨n, Z, hn1, hn2, rfl, hg, hz, hF⟩ := hrel
    by_cases hlt : n < q
    · have hnq : (n : Int) ≤ (q : Int) := by omega
      have hqn : ¬ q = n := by omega
      go_wp2_with fail
      refine wp_region_T [true, true, true, true, true, true, true, false, true, true] (by kernel_rfl) (by as_aux_lemma => kernel_rfl) ?_
      simp only [List.zip_cons_cons, List.zip_nil_right]
      iterate 7
        refine wpT_pure fun K hK => ?_
        go_simp
        refine hK _ ?_
        clear hK K
      have hm : Nat.min n (q - n) = min n (q - n) := rfl
      obtain ⟨m, hm'⟩ : ∃ m, m = min n (q - n) := ⟨_, rfl⟩
      have hfr : ∀ o, o < n → (wr.drew).cell? ⟨g, o, none⟩ = some (.int .i64 k) := fun o ho => by
        show wr.cell? _ = _
        rw [cell_of_row wr g o _ _ _ hg]
        show (List.replicate n (Value.int .i64 k) ++ Z).toArray[o]? = _
        rw [List.getElem?_toArray, List.getElem?_append_left (by simpa using ho), List.getElem?_replicate, if_pos ho]
      refine wpT_copy rfl _ _ 27 27 rfl 3 Try.underlying27 sizeInt g n (q - n) (q - n) ⟨g, 0, none⟩ n q rfl rfl _ 3 hg (List.replicate m (.int .i64 k)) (by rw [hm, ← hm', List.length_replicate])
        (fun j v hj => by
          have hjm : j < m := by have := (List.getElem?_eq_some_iff.1 hj).1; simpa using this
          have hadd : (⟨g, 0, none⟩ : Addr).add j = ⟨g, j, none⟩ := by unfold Addr.add; split <;> simp_all
          rw [hadd, hfr j (by omega)]
          rw [List.getElem?_replicate, if_pos hjm] at hj
          exact hj) (by simp [hz]; omega) (fun u hu => by rw [(List.mem_replicate.1 hu).2]; rfl) ?_
      have hg' : (wr.drew.setRow g ((List.replicate n (Value.int .i64 k) ++ Z).toArray.toList.take n ++ List.replicate m (Value.int .i64 k) ++ (List.replicate n (Value.int .i64 k) ++ Z).toArray.toList.drop (n + (List.replicate m (Value.int .i64 k)).length)).toArray).heap[g]? = some (.cells ((List.replicate (n + m) (Value.int .i64 k)) ++ Z.drop m).toArray 3 (0, 0)) := by
        rw [setRow_heap wr.drew g _ _ _ _ hg]
        congr 3
        simp [List.drop_append]
      have hF' : Fr [] w (wr.drew.setRow g ((List.replicate n (Value.int .i64 k) ++ Z).toArray.toList.take n ++ List.replicate m (Value.int .i64 k) ++ (List.replicate n (Value.int .i64 k) ++ Z).toArray.toList.drop (n + (List.replicate m (Value.int .i64 k)).length)).toArray) := hF.drew.trans1 (Fr.setRow _ _) (hF2g _ rfl)
      generalize wr.drew.setRow g _ = wn at *
      rw [List.length_replicate]
      have hma : 1 ≤ m ∧ n + m ≤ q := by omega
      have hww : IntKind.i64.wrap ((n : Int) + (m : Int)) = (n : Int) + (m : Int) := IntWalk.i64_in _ (by omega)
      have hzd : (Z.drop m).length = q - (n + m) := by simp; omega
      clear hfr hg hm hm'
      generalize Z.drop m = Z' at *
      iterate 2
        refine wpT_pure fun K hK => ?_
        go_simp
        refine hK _ ?_
        clear hK K
      refine wpT_end ?_
      go_wp2
      go_roundw
      case rel => exact ⟨n + m, Z', by omega, by omega, by go_num, hg', hzd, hF'⟩
      case measure => simp [intOf]; omega
    · have hnq : n = q := by omega
      subst hnq
      have hZ : Z = [] := List.eq_nil_of_length_eq_zero (by omega)
      subst hZ
      have hsl : SlI wr (.slice (some ⟨g, 0, none⟩) n n) (List.replicate n k) := by
        refine ⟨_, n, by rw [List.length_replicate], by rw [List.length_replicate]; omega, by unfold maxLen; omega, .inr ⟨g, 0, rfl, (Array.getElem?_eq_some_iff.1 hg).1, fun j u hu => ?_⟩⟩
        rw [rep_cells] at hu
        rw [Nat.zero_add, cell_of_row wr g j _ _ _ hg, List.append_nil, List.getElem?_toArray]
        exact hu
      go_wp2
      go_ret
      exact ⟨_, rfl, hsl, hF⟩
end Go.Proofs.Ytkammkbjkojfmaa
