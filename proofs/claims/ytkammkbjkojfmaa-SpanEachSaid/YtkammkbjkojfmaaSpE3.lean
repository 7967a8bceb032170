/-
  span.Only.
-/
import Derived.Test.YtkammkbjkojfmaaSpE2
import Derived.Test.YtkammkbjkojfmaaMemIn
namespace Go.Proofs.Ytkammkbjkojfmaa
open Go.RowKit Go.Maps
attribute [local go_sem] Oper.semAt_some

theorem ofKind_kind (l : List Op3) (k : Int) {i : Nat} (hi : i < (ofKind l k).length) : ((ofKind l k).getD i z3).2.2 = k := by
  have hg : (ofKind l k)[i] = (ofKind l k).getD i z3 := by rw [List.getD_eq_getElem?_getD, List.getElem?_eq_getElem hi]; rfl
  have := (List.mem_filter.1 (List.getElem_mem hi)).2
  rw [hg] at this
  exact beq_iff_eq.1 this
theorem ofKind_len (l : List Op3) (k : Int) : (ofKind l k).length ≤ 65536 :=
  Nat.le_trans (List.length_filter_le _ _) (Nat.le_trans (ofE_len _) (kindsE_le l))
theorem take_snoc {α : Type} (d : α) (xs : List α) {k : Nat} (h : k < xs.length) : xs.take (k + 1) = xs.take k ++ [xs.getD k d] := by
  have hg : xs[k] = xs.getD k d := by rw [List.getD_eq_getElem?_getD, List.getElem?_eq_getElem h]; rfl
  rw [List.take_succ_eq_append_getElem h, hg]
set_option maxRecDepth 100000 in
set_option maxHeartbeats 2000000 in
theorem sOnly_calls (vl : Value) (l : List Op3) (kind : Int) (w : World) (hv : SlP w vl l) : Calls Try.prog 32 #[vl, .int .i64 kind] w fun e w' => ∃ v', e = .returned v' ∧ SlP w' v' (ofKind l kind) ∧ Fr [] w w' := by
  have Hk : ∀ k, k < (ofKind l kind).length → ((ofKind l kind).getD k z3).2.2 = kind := fun k hk => ofKind_kind l kind hk
  have hxl := ofKind_len l kind
  obtain ⟨a, cap, rfl, hlc, hcm, _⟩ := hv.open
  have hsq := fun bl bk w2 h1 h2 h3 => each_seq bl bk _ l kind w2 h1 h2 (SlF.fr0 hv h3)
  generalize ofKind l kind = xs at *
  refine calls_marks Try.func32 rfl ?_
  simp only [Try.ntmps32, List.size_toArray, List.length_cons, List.length_nil, Nat.reduceAdd, Nat.reduceSub, Array.replicate_succ, Array.replicate_zero, List.push_toArray, List.append_toArray, List.nil_append, List.cons_append]
  go_wp2_with fail
  have B3 := Blk.new w [.int .i64 kind] 3
  have B5 := Blk.new' (w := w.alloc (.cells #[.int .i64 kind] 3)) (n := w.heap.size + 1) (by simp) [.slice none 0 0] 22
  have hF1 := ((Fr.refl [] w).alloc (.cells #[.int .i64 kind] 3)).alloc (.cells #[.slice none 0 0] 22)
  refine (sEach_calls _ kind a l.length cap rfl _).mono ?_
  rintro e w2 ⟨bl, bk, rfl, hbl, hbk, hf2, hb1, hb2⟩
  simp only [World.size_alloc] at hb1 hb2
  have B5b := B5.fr0 hf2
  have B3b := (B3.alloc (.cells #[.slice none 0 0] 22)).fr0 hf2
  have hF2 := hF1.trans0 hf2
  have hsz := hF2.size
  have hl5 := B5b.lt
  have hl3 := B3b.lt
  have hlk := hbk.lt
  have hseq := hsq bl bk w2 hbl hbk hF2
  clear hsq B5 B3 hF1 hf2 hbl hbk
  go_wp2_with fail
  refine wp_rangeFunc_seq rfl (enters_of Try.func39 (by kernel_rfl) rfl) hseq (Fr.refl _ _) (fun k f A => ∃ v, f = (w.heap.size + 1) :: v.ownBlock.toList ∧ Blk A (w.heap.size + 1) [v] 22 ∧ A.ownsRow w2.heap.size 38 3 v k ((xs.take k).flatMap op3C) ∧ Blk A w.heap.size [.int .i64 kind] 3 ∧ Fr [] w A) (fun _ _ _ => False) [w.heap.size + 1] ?st (fun _ _ _ _ _ h _ _ => h) (by simp) (by simp; omega) ⟨.slice none 0 0, rfl, B5b, World.ownsRow_nil _ _ _ _, B3b, hF2⟩ ?round ?done (fun _ _ _ _ _ _ h _ => h.elim)
  case st =>
    rintro k f A B M' ⟨v, rfl, hb, ho, hb3, hf⟩ hF hM
    exact ⟨v, rfl, stab_blk hb hF hM hl5 (by simp), stab_own ho hF hM (fun x hx => ⟨by simp [hx], by simp⟩), stab_blk hb3 hF hM hl3 (by simp), stab_fr hf hF hM (by omega) (by simp)⟩
  case round =>
    rintro lp k f A args h1 h2 h3 h4 hk ⟨v, hfe, hb, ho, hb3, hf⟩ rfl
    refine ⟨rfl, ?_⟩
    have Hn := hidIt (take_snoc z3 xs hk)
    have hkk := Hk k hk
    clear hseq Hk
    generalize xs.take k = X at *
    generalize xs.getD k z3 = x at *
    obtain ⟨p, q, r⟩ := x
    simp only at hkk ⊢
    subst hkk
    gi_wp2
    refine ⟨⟨v, hfe, hb, ho, hb3, hf⟩, Fr.refl _ _, ?_⟩
    clear hb ho hb3 hf hfe v
    rintro A2 ⟨v, rfl, hb, ho, hb3, hf⟩ hF2 hsz2
    have hA2 : w2.heap.size ≤ A2.heap.size := by omega
    clear hsz2
    have c5 := hb.cell
    have f5 := hb.frozen
    have l5 := hb.lt
    have c3 := hb3.cell
    have l3 := hb3.lt
    obtain ⟨av, cv, rfl, _, _, _⟩ := Sl.of_owns ho
    have hob := own_base ho
    gi_wp2_with (gi_at_builtin; refine Hid.out ?_)
    refine hidIt ?_
    refine wpListIn_append1 22 38 (.agg #[.int .i64 0, .int .i64 0, .int .i64 0]) 3 24 Try.underlying22 infoExt rfl (by decide) (by decide) rfl _ _ rfl w2.heap.size (.slice av k cv) k (X.flatMap op3C) rfl (ho.alloc _) (op3C (p, q, r)) rfl ext_one A2.heap.size rfl (Blk.new _ _ _) (by omega) (by simp; omega) ?_
    intro v' w3 hown3 hgrow hloc
    have hFa := (Fr.refl [] A2).alloc (.cells #[.int .i64 p, .int .i64 q, .int .i64 r] 38)
    have hne : ∀ x, (Value.slice av k cv).ownBlock = some x → w2.heap.size ≤ x := hob
    have hFg : Fr (Value.slice av k cv).ownBlock.toList A2 w3 := (hFa.weak).grown hgrow (fun x hx => .inl (Option.mem_toList.2 hx))
    have hb3' := hb3.fr hFg (fun hm => by have := hne _ (Option.mem_toList.1 hm); omega)
    have hb5' := hb.fr hFg (fun hm => by have := hne _ (Option.mem_toList.1 hm); omega)
    have hF3 := hf.trans hFg (fun x hx hl => by have := hne _ (Option.mem_toList.1 hx); omega)
    have hob3 := own_base hown3
    have q3 := hFg.size
    have hlt3 := hown3.lt
    have c5' := hb5'.cell
    have f5' := hb5'.frozen
    obtain ⟨av', cv', rfl, _, _, _⟩ := Sl.of_owns hown3
    gi_wp2
    refine ⟨_, ⟨.slice av' (k + 1) cv', rfl, hb5'.setCell 0 _, owns_setCell ?_ (by show w.heap.size + 1 < w2.heap.size; omega) _, hb3'.other (by simp) _, hF3.setCell (.inr (by simp)) _⟩, Fr.setCell (p := ⟨w.heap.size + 1, 0, none⟩) (hFg.mono (fun x hx _ => List.mem_cons_of_mem _ hx)) (.inl List.mem_cons_self) _, fun x hx => ?_⟩
    · rw [Hn.out, List.flatMap_append, List.flatMap_cons, List.flatMap_nil, List.append_nil]
      exact hown3
    · simp only [World.size_setCell]
      rcases List.mem_cons.1 hx with rfl | hx
      · exact ⟨by omega, .inl List.mem_cons_self⟩
      · have hx' := Option.mem_toList.1 hx
        refine ⟨(hlt3 x hx').2, ?_⟩
        rcases hloc with h | h
        · rw [h] at hx'
          exact .inl (List.mem_cons_of_mem _ (Option.mem_toList.2 hx'))
        · rw [h] at hx'
          cases hx'
          exact .inr (by simp)
  case done =>
    rintro D f W h1 h2 ⟨v, rfl, hb, ho, hb3, hf⟩ hK
    have c5 := hb.cell
    rw [List.take_length] at ho
    have hsl : SlP W v xs := SlF.of_owns ho
    obtain ⟨av, cv, rfl, _, _, _⟩ := Sl.of_owns ho
    go_wp2
    refine leave_mark rfl hK (fun W' _ => results_tmp rfl _ _ _) fun W' hF => ⟨_, rfl, SlF.fr hsl hF (fun x hx hm => h2 (by have := List.mem_singleton.1 hm; subst this; exact List.mem_cons_of_mem _ (Option.mem_toList.2 hx))), hf.trans1 hF (by omega)⟩
end Go.Proofs.Ytkammkbjkojfmaa
