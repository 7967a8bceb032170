/-
  span.bounds: what its iterator hands out.
-/
import Derived.Test.YtkammkbjkojfmaaSpBo
import Derived.Test.YtkammkbjkojfmaaSpE1
namespace Go.Proofs.Ytkammkbjkojfmaa
open Go.RowKit Go.Maps
attribute [local go_sem] Oper.semAt_some

/-- where a piece begins -/
def prevC (C : List Int) (k : Nat) : Int := if k = 0 then 0 else C.getD (k - 1) 0
set_option maxRecDepth 100000 in
set_option maxHeartbeats 2000000 in
theorem bounds_seq (bx base : Nat) (ve : Value) (Z : List Int) (w : World) (hbx : Blk w bx [ve] 27) (hown : w.ownsRow base 3 1 ve Z.length (Z.flatMap intC)) (hZ : Z.length ≤ 1000000) (hz : ∀ x ∈ Lib.compact Z, 0 ≤ x ∧ x ≤ 4000000) (hcl : (Lib.compact Z).length ≤ 1000000) :
    Seq Try.prog 43 #[.pointer (some ⟨bx, 0, none⟩)] ve.ownBlock.toList (fun x => ve.ownBlock = some x) (Lib.compact Z).length
      (fun k _ args => args = #[.int .i64 (prevC (Lib.compact Z) k), .int .i64 ((Lib.compact Z).getD k 0 - prevC (Lib.compact Z) k)]) w := by
  intro lp J Jx fp W hFW hl1 hl2 hst hsx hfp hJ hY
  have hownW := owns_fr hown hFW (by simp)
  have hbxW := hbx.fr0 hFW
  have c1 := hbxW.cell
  have hltW := hownW.lt
  have key := sCompact_calls base ve Z W hownW hZ
  have hp : ∀ k, k ≤ (Lib.compact Z).length → 0 ≤ prevC (Lib.compact Z) k ∧ prevC (Lib.compact Z) k ≤ 4000000 := fun k hk => by
    unfold prevC
    split
    · omega
    · exact hz _ (List.mem_of_getElem? (getD_some 0 (by omega)))
  have hg : ∀ k, k < (Lib.compact Z).length → 0 ≤ (Lib.compact Z).getD k 0 ∧ (Lib.compact Z).getD k 0 ≤ 4000000 := fun k hk => hz _ (List.mem_of_getElem? (getD_some 0 hk))
  have hnext : ∀ k, Hid (prevC (Lib.compact Z) (k + 1) = (Lib.compact Z).getD k 0) := fun k => hidIt (by unfold prevC; rw [if_neg (by omega)]; rfl)
  have h0 : prevC (Lib.compact Z) 0 = 0 := rfl
  generalize hP : prevC (Lib.compact Z) = P at *
  generalize Lib.compact Z = C at *
  clear hP hz
  obtain ⟨a, cap, rfl, _, _, _⟩ := Sl.of_owns hownW
  refine callsIn_of_wp Try.func43 rfl trivial ?_ rfl
  simp only [Try.ntmps43, List.size_toArray, List.length_cons, List.length_nil, Nat.reduceAdd, Nat.reduceSub, Array.replicate_succ, Array.replicate_zero, List.push_toArray, List.append_toArray, List.nil_append, List.cons_append]
  gi_wp2_with fail
  refine ⟨trivial, rfl, (callsIn_wide.2 key).mono ?_⟩
  rintro e w1 ⟨v1, rfl, hs1, hf1, hb1⟩
  obtain ⟨a1, cap1, rfl, hlc1, hcm1, _⟩ := hs1.open
  unfold maxLen at hcm1
  have hJ1 := hst 0 fp W w1 _ hJ hf1 (fun x hx => .inl hx)
  have hsz1 := hf1.size
  have hfp1 : ∀ x ∈ fp, x < w1.heap.size ∧ ∀ p, a1 = some p → p.block ≠ x := fun x hx => ⟨by have := (hfp x hx).1; omega, fun p hp' he => (hfp x hx).2 (by rw [← he]; exact hb1 _ (by simp [Value.ownBlock, hp']))⟩
  clear hbx hown hownW hbxW c1 hJ hfp key hf1
  gi_wp2_with fail
  gi_loopw [3, 5, 9] (fun fr _ i wr => ∃ (k : Nat) (f : List Nat), k ≤ C.length ∧ i = .int .i64 k ∧ fr = .int .i64 (P k) ∧ J k f wr ∧ (∀ x ∈ f, x < wr.heap.size ∧ ∀ p, a1 = some p → p.block ≠ x) ∧ SlI wr (.slice a1 C.length cap1) C ∧ W.heap.size ≤ wr.heap.size) (fun _ _ i _ => C.length - (intOf i).toNat)
  case atStart => exact ⟨0, fp, Nat.zero_le _, rfl, by rw [h0], hJ1, hfp1, hs1, hsz1⟩
  case round =>
    clear hJ1 hfp1 hs1 hsz1
    obtain ⟨k, f, hk, rfl, rfl, hj, hf, hsl, hsz⟩ := hrel
    by_cases hlt : k < C.length
    · obtain ⟨b, off, rfl, hb, d0⟩ := SlI.at hsl hlt
      have hy := hY k f _ _ hlt hj rfl
      have hn := hnext k
      have hp1 := hp k hk
      have hg1 := hg k hlt
      clear hnext hp hg h0
      generalize C.getD k 0 = x at *
      generalize hPk : P k = y at *
      obtain ⟨fn', tmps', assign', body', hyy, hR⟩ := hy
      have hwr : IntKind.i64.wrap (x - y) = x - y := IntWalk.i64_in _ (by omega)
      clear hY hst hPk
      gi_wp2_with fail
      refine ⟨rfl, hR.mono ?_⟩
      clear hR hyy
      rintro e w4 (⟨rfl, f', hj4, hf4, hg4⟩ | ⟨rfl, hjx⟩)
      · have q4 := hf4.size
        have hsl4 : SlI w4 (.slice (some ⟨b, off, none⟩) C.length cap1) C := SlF.fr hsl hf4 (fun y hy hm => by cases hy; exact (hf _ hm).2 _ rfl rfl)
        have hg : ∀ y, y ∈ f' → y < w4.heap.size ∧ ∀ p : Addr, some (⟨b, off, none⟩ : Addr) = some p → p.block ≠ y := fun y hy => by
          refine ⟨(hg4 y hy).1, fun p hp => ?_⟩
          cases hp
          rcases (hg4 y hy).2 with h | h
          · exact (hf y h).2 _ rfl
          · show b ≠ y
            omega
        gi_wp2
        go_roundw
        case rel => exact ⟨k + 1, f', by omega, by go_num, by rw [hn.out], hj4, hg, hsl4, by omega⟩
        case measure => simp [intOf]; omega
      · gi_wp2
        refine bodyPost_ret (results_none rfl _ _ _) rfl ?_
        exact ⟨⟨_, rfl⟩, .inr hjx⟩
    · have hke : k = C.length := by omega
      have hj' : J C.length f wr := by rw [← hke]; exact hj
      clear hst hY hp hg hnext hke
      gi_wp2
      go_end0
      exact ⟨⟨_, rfl⟩, .inl ⟨f, hj'⟩⟩
end Go.Proofs.Ytkammkbjkojfmaa
