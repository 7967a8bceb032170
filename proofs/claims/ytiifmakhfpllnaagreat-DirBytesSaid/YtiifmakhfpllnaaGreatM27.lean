/-
  Package octets: Text; the Reader's Text.
-/
import Derived.Test.YtiifmakhfpllnaaGreatM23
import Derived.Lib.AppendStr
import Derived.Test.YtiifmakhfpllnaaGreatM16
namespace Go.Proofs.YtiifmakhfpllnaaGreat
open Go.RowKit Go.Maps
theorem strCells_by (s : List UInt8) : Go.Lib.strCells ⟨s.toArray⟩ = s.flatMap byC := by
  unfold Go.Lib.strCells
  induction s with
  | nil => rfl
  | cons x l ih => simpa [byC] using ih
/-- 'append(b, s...)', s a text: where it lies behind it -/
theorem wpList_append_strL {P : Program} {ops : Array Oper} {rest : List Oper} {o : Oper} {a : Act} {Q : Exit → Act → World → Prop} (w : World) (hgd : o.guard = none) (sl x : Operand) (t u : TypeId)
    (ho : o.op = .call { callee := .builtin .append, args := #[sl, x], argTypes := #[t, u] })
    (base : Nat) (e : TypeId) (i : TypeInfo) (ht : P.underlying t = some (.slice e)) (hu : P.underlying u = some .string) (hi : P.info? e = some i) (hz : i.zero = some (.int .u8 0))
    (hsize : i.size = 1) (hby : i.bytes = 1)
    (v : Value) (n : Nat) (xs : List Value) (hs : a.eval sl = v) (hown : w.ownsRow base e 1 v n xs) (s : ByteArray) (hx : a.eval x = .string s)
    (h63 : n + s.size ≤ maxLen) (hbytes : n + s.size ≤ 140737488355328) (hbase : base ≤ w.heap.size)
    (h : ∀ v' w', w'.ownsRow base e 1 v' (n + s.size) (xs ++ Go.Lib.strCells s) → w.grownBy w' v.ownBlock → (v'.ownBlock = v.ownBlock ∨ v'.ownBlock = some w.heap.size) → wpList P ops Q rest (a.put o.dst v') w') : wpList P ops Q (o :: rest) a w := by
  refine wpList_plain hgd fun K hK => ?_
  obtain ⟨v', w', hr, h2, h3, h4⟩ := Go.Lib.run_append_own_string (P := P) w base t u o.type e i ht hu hi hz hsize hby v n xs hown s h63 hbytes hbase
  unfold Oper.wp execOp
  simp only [ho, resolve, invoke, builtin, Sem.run_bind, Sem.run_pure, Result.andThen_ok, List.map_toArray, List.map_cons, List.map_nil, hs, hx, hr]
  refine hK _ _ (h v' w' h2 h3 ?_)
  rcases hown.2 with ⟨rfl, rfl⟩ | ⟨g, cap, cur, rfl, hbg, hg, hnc, hcm, hcs, htake⟩
  · by_cases hm : s.size = 0
    · left
      rw [h4.2 ⟨rfl, hm⟩]
    · right
      have hr2 := run_append_nil_string (P := P) w t u o.type e i (.int .u8 0) ht hu hi hz s (by omega) (by unfold maxLen at h63; omega) (by rw [hby]; omega)
      have := (Result.ok.inj (hr.symm.trans hr2)).1
      rw [this]
      rfl
  · by_cases hroom : n + s.size ≤ cap
    · left
      have hcs' : cur.size = cap := by simpa using hcs
      have hr2 := Go.Lib.run_append_room_string (P := P) w t u o.type e i ht hu hi hsize g n cap cur hg s hroom (by omega)
      have := (Result.ok.inj (hr.symm.trans hr2)).1
      rw [this]
      rfl
    · right
      have hxl : xs.length = n := by simpa using hown.1
      have holds : ∀ j u, xs[j]? = some u → w.cell? ((⟨g, 0, none⟩ : Addr).add j) = some u := hown.cells (g := g) rfl
      have hr2 := Go.Lib.run_append_grow_string (P := P) w t u o.type e i (.int .u8 0) ht hu hi hz ⟨g, 0, none⟩ n cap xs (by rw [hsize]; simpa using hxl) holds s (by omega) (by unfold maxLen at h63; omega) (by rw [hby]; exact growslice_fits (by omega) (by omega))
      have := (Result.ok.inj (hr.symm.trans hr2)).1
      rw [this]
      rfl
set_option maxRecDepth 100000 in
set_option maxHeartbeats 800000 in
theorem oText_calls (W : Nat) (hW : W = 1 ∨ W = 2 ∨ W = 4) (base : Nat) (v : Value) (bs s : List UInt8) (w : World) (hown : w.ownsRow base 5 1 v bs.length (bs.flatMap byC)) (hs : s.length < 256 ^ W)
    (hm : bs.length + 4 ≤ 1000000) (hsm : s.length ≤ 1000000) (hb : base ≤ w.heap.size) :
    Calls Tryz.prog 49 #[v, strL s, .int .i64 (W : Int)] w
      fun e w' => ∃ v', e = .returned (.tuple #[v', .bool true]) ∧ w'.ownsRow base 5 1 v' (bs ++ numL W s.length ++ s).length ((bs ++ numL W s.length ++ s).flatMap byC) ∧ Fr v.ownBlock.toList w w' ∧ ∀ x, v'.ownBlock = some x → v.ownBlock = some x ∨ w.heap.size ≤ x := by
  obtain ⟨t, ht⟩ : ∃ t, strL s = .string t := ⟨_, rfl⟩
  have hlen := fun ty X => len_str s ty X
  have hgi : goInt s.length = .int .i64 s.length := rfl
  rw [hgi] at hlen
  rw [ht] at hlen ⊢
  have hts : t.size = s.length := by cases ht; exact size_str s
  have htc : Go.Lib.strCells t = s.flatMap byC := by cases ht; exact strCells_by s
  clear hgi
  go_enter Tryz.func49, Tryz.ntmps49
  go_wp2_with fail
  refine (Put_calls W hW [s.length] (by intro x hx; have := List.mem_singleton.1 hx; subst this; exact hs) base v bs w.heap.size 1 _ (hown.alloc _) (by simp; omega) (by simp; omega) (Blk.new w [_] _) (fun k hk e => by have := (hown.lt k hk).2; omega)).mono ?_
  rintro e w1 ⟨v1, rfl, hown1, hf1, hob1⟩
  have hF1 : Fr v.ownBlock.toList w w1 := ((Fr.refl _ w).alloc (.cells #[.int .i64 s.length] 3)).trans' hf1
  have e1 : bs ++ [s.length].flatMap (numL W) = bs ++ numL W s.length := by simp
  rw [e1] at hown1
  have hW4 : W ≤ 4 := by omega
  have hpl : (bs ++ numL W s.length).length = bs.length + W := by simp [numL_length]
  generalize hp : bs ++ numL W s.length = pre at hown1 hpl
  have Hp := hidIt hp
  clear hp
  have hsz := hF1.size
  simp only [World.size_alloc] at hob1
  clear hf1 e1
  go_wp2_with (at_builtin; refine Hid.out ?_)
  refine hidIt ?_
  obtain ⟨i0, hi, hz0, hz1, hz2⟩ := info_parts infoY
  refine wpList_append_strL _ rfl _ _ _ _ rfl base 5 i0 Tryz.underlying23 Tryz.underlying9 hi hz0 hz1 hz2 v1 pre.length _ rfl hown1 t rfl (by unfold maxLen; omega) (by omega) (by omega) ?_
  intro v2 w2 hown2 hgrow2 hloc2
  rw [htc, hts, ← List.flatMap_append, ← List.length_append] at hown2
  have hF2 : Fr v.ownBlock.toList w w2 := hF1.grown hgrow2 (fun x hx => by
    rcases hob1 x hx with h | h
    · exact .inl (by simp [h])
    · exact .inr (by omega))
  have hob2 : ∀ x, v2.ownBlock = some x → v.ownBlock = some x ∨ w.heap.size ≤ x := fun x hx => by
    rcases hloc2 with h | h
    · rw [h] at hx
      rcases hob1 x hx with h | h
      · exact .inl h
      · exact .inr (by omega)
    · rw [h] at hx
      cases hx
      exact .inr hsz
  go_wp2
  go_ret2
  exact ⟨_, rfl, by rw [Hp.out]; exact hown2, hF2, hob2⟩
def rdText (l : List UInt8) (e : Int) (W : Nat) : List UInt8 × Int × List UInt8 := rdTake (rdNum l e W).1 (rdNum l e W).2.1 ((rdNum l e W).2.2 : Int) false
set_option maxRecDepth 100000 in
set_option maxHeartbeats 800000 in
theorem Text_calls (W : Nat) (hW : W = 1 ∨ W = 2 ∨ W = 4) (rb vb : Nat) (l : List UInt8) (e : Int) (w : World) (h : RdW w rb vb l e) :
    Calls Tryz.prog 24 #[.pointer (some ⟨rb, 0, none⟩), .int .i64 (W : Int)] w
      fun e' w' => e' = .returned (strL (rdText l e W).2.2) ∧ RdW w' rb vb (rdText l e W).1 (rdText l e W).2.1 ∧ Fr [rb] w w' := by
  unfold rdText
  have key := Num_calls W hW rb vb l e w h
  generalize rdNum l e W = q at *
  obtain ⟨l1, e1, n⟩ := q
  simp only at key ⊢
  go_enter Tryz.func24, Tryz.ntmps24
  go_wp2_with fail
  refine key.mono ?_
  rintro e w1 ⟨rfl, h1, hf1⟩
  go_wp2_with fail
  refine (take_calls rb vb l1 e1 (n : Int) false w1 h1 (fun _ => by omega)).mono ?_
  rintro e w2 ⟨v, rfl, hs, hv, hR, hf⟩
  have hc := conv_str hs
  go_wp2
  go_ret
  exact ⟨rfl, hR, hf1.trans' hf⟩
end Go.Proofs.YtiifmakhfpllnaaGreat
