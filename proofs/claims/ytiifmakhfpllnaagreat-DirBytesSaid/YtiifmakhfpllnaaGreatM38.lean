/-
  law11.stands, where it does.
-/
import Derived.Test.YtiifmakhfpllnaaGreatM33
import Derived.Test.YtiifmakhfpllnaaGreatM34
import Derived.Test.YtiifmakhfpllnaaGreatM13
import Derived.Test.YtiifmakhfpllnaaGreatM14
import Derived.Test.YtiifmakhfpllnaaGreatM37
namespace Go.Proofs.YtiifmakhfpllnaaGreat
open Go.RowKit Go.Maps
attribute [local go_sem] cells_str store_str eql_str neq_str guard_str

variable {H : List Nat}
theorem Grain_calls (tb mb S g : Nat) (l : List Bool) (w : World) (h : BitW w tb mb S g l) : Calls Tryz.prog 34 #[.pointer (some ⟨tb, 0, none⟩)] w fun e w' => e = .returned (.int .i64 g) ∧ w = w' := by
  have c := h.blk.cell
  go_enter Tryz.func34, Tryz.ntmps34
  go_wp2
  go_ret
  exact ⟨rfl, rfl⟩
set_option maxRecDepth 100000 in
set_option maxHeartbeats 3200000 in
theorem lStands_calls (db mb : Nat) (L : List Cel) (v : Value) (P : List (Ent × Value)) (w : World) (h : DirW w db mb L) (hv : RefE H w v P) (hE : P.map (·.1) = L.map (·.x)) :
    Calls Tryz.prog 9 #[.pointer (some ⟨db, 0, none⟩), v] w fun e w' => e = .returned (.bool true) ∧ Fr [] w w' := by
  obtain ⟨a, cap, rfl, hlc, hcm, _⟩ := hv.sl.open
  have hPL : P.length = L.length := by have := congrArg List.length hE; simpa using this
  have h8 := h.few
  have HE := hidIt hE
  clear hE
  go_enter Tryz.func9, Tryz.ntmps9
  go_wp2_with fail
  refine (Names_calls db mb L w h).mono ?_
  rintro e w4 ⟨nv, rfl, hnv, hf4, _⟩
  obtain ⟨na, nc, rfl⟩ := hnv.cell
  have hnl : (L.map fun c => c.x.name).length = L.length := List.length_map _
  have h4 := h.fr0 hf4
  have hv4 := hv.fr0 hf4
  rw [hnl, hPL]
  have HPL := hidIt hPL
  clear hPL h hv
  go_wp2_with fail
  go_loopw [6, 7, 8, 9, 19] (fun _ _ _ _ i wr => ∃ k : Nat, k ≤ L.length ∧ i = .int .i64 k ∧ Fr [] w4 wr) (fun _ _ _ _ i _ => L.length - (intOf i).toNat)
  case atStart => exact ⟨0, Nat.zero_le _, rfl, Fr.refl _ _⟩
  case round =>
    obtain ⟨k, hk, rfl, hF⟩ := hrel
    by_cases hlt : k < L.length
    · have hltP : k < P.length := by rw [HPL.out]; exact hlt
      have hc : L[k]'hlt ∈ L := List.getElem_mem _
      have hnm : (L.map fun c => c.x.name).getD k [] = (L[k]'hlt).x.name := by
        rw [List.getD_eq_getElem?_getD, List.getElem?_map, List.getElem?_eq_getElem hlt]; rfl
      obtain ⟨nb, noff, rfl, hnb, ccn⟩ := SlT.at (SlF.fr0 hnv hF) (i := k) (by rw [hnl]; exact hlt)
      rw [hnm] at ccn
      have hfc := find_rising h4.rising hc
      have hD := h4.fr0 hF
      have hok := hD.ok.all _ (List.mem_map.2 ⟨_, hc, rfl⟩)
      have hnr := okName_len hok.name
      have hvr := hv4.fr0 hF
      have hpx : (P.getD k zP).1 = (L[k]'hlt).x := by
        have h1 : (P.map (·.1))[k]? = (L.map (·.x))[k]? := by rw [HE.out]
        rw [List.getElem?_map, List.getElem?_map, List.getElem?_eq_getElem hltP, List.getElem?_eq_getElem hlt] at h1
        rw [List.getD_eq_getElem?_getD, List.getElem?_eq_getElem hltP]
        exact Option.some.inj h1
      have hrow := hvr.rows _ (getD_mem hltP zP)
      generalize L[k]'hlt = c at *
      go_wp2_with fail
      refine (Get_some db mb L c.x.name c _ hD (by unfold maxLen; omega) hfc).mono ?_
      rintro e w5 ⟨tb, bm, rfl, _, _, hB, hf5⟩
      have hF5 := hF.trans0 hf5
      have hvr5 := hvr.fr0 hf5
      have hrow5 := hrow.fr0 hf5
      unfold entV
      have B8 := Blk.new w5 [strL c.x.name, .bool c.x.on, .bool c.x.use, .pointer (some ⟨tb, 0, none⟩)] 56
      have hfa := (Fr.refl [] w5).alloc (.cells #[strL c.x.name, .bool c.x.on, .bool c.x.use, .pointer (some ⟨tb, 0, none⟩)] 56)
      have hvr6 := hvr5.fr0 hfa
      have hF6 := hF5.trans0 hfa
      have hB6 := hB.fr0 hfa
      have hrow6 := hrow5.fr0 hfa
      obtain ⟨b, off, rfl, hb, d0, d1, d2, d3, d4, d5⟩ := SlE.at hvr6.sl hltP
      obtain ⟨ua, un, uc, hue0⟩ := enT _ (P.getD k zP)
      have hue := hue0 hrow6
      unfold rowP at hrow6
      rw [hue] at d5
      rw [hue, hpx] at hrow6
      rw [hpx] at d0 d1 d2 d3 d4
      clear hue0 hue hrow5 hrow hvr5 hvr hB hD hF hfc ccn hvr6 hpx hf5 hF5
      generalize c.x = x at *
      have hlq : (k : Int) < L.length := by omega
      go_wp2_with fail
      generalize w5.alloc (.cells #[strL x.name, .bool x.on, .bool x.use, .pointer (some ⟨tb, 0, none⟩)] 56) = w6 at *
      have hFd : Fr [] w6 w6.drew := (Fr.refl [] w6).drew
      have kd : ∀ X, Fr [] w6.drew X → X.cell? ⟨b, off + k * 6, none⟩ = some (strL x.name) ∧ X.cell? ⟨b, off + k * 6 + 1, none⟩ = some (.bool x.on) ∧ X.cell? ⟨b, off + k * 6 + 2, none⟩ = some (.bool x.use) ∧ X.cell? ⟨b, off + k * 6 + 3, none⟩ = some (.int .i64 x.S) ∧ X.cell? ⟨b, off + k * 6 + 4, none⟩ = some (.int .i64 x.g) ∧ X.cell? ⟨b, off + k * 6 + 5, none⟩ = some (.slice ua un uc) := fun X hX => by
        have r := hX.rules0.1
        exact ⟨(r _ _ hb).trans d0, (r _ _ hb).trans d1, (r _ _ hb).trans d2, (r _ _ hb).trans d3, (r _ _ hb).trans d4, (r _ _ hb).trans d5⟩
      have B8d := B8.drew
      refine wp_region_G (Fr [] w6.drew) [(true, 0), (true, 1), (true, 2), (true, 3), (true, 4), (true, 5), (true, 6), (true, 7), (true, 8), (true, 9), (true, 10), (true, 11), (true, 12), (true, 13), (true, 14), (true, 15), (true, 16), (true, 17), (true, 18), (true, 19), (true, 20), (true, 21), (true, 22), (true, 23), (true, 24), (true, 25), (true, 26), (true, 27), (true, 28), (true, 29), (true, 30), (true, 31), (true, 32), (true, 33), (true, 34), (true, 35), (true, 36), (true, 37), (true, 38), (true, 39), (true, 40), (true, 41), (true, 42), (true, 43), (true, 44), (true, 46), (true, 47), (true, 48), (true, 49), (true, 50), (true, 51), (false, 45), (true, 52), (true, 53), (true, 54), (true, 55), (true, 56), (true, 58), (true, 59), (true, 60), (true, 61), (true, 62), (false, 57), (false, 63), (false, 64), (true, 65), (true, 66)] (by as_aux_lemma => kernel_rfl) (by as_aux_lemma => kernel_rfl) (Fr.refl _ _) ?_
      simp only [inOrder, List.map_cons, List.map_nil, List.getD_cons_zero, List.getD_cons_succ]
      iterate 4
        refine wpG_pure fun K hK => ?_
        go_simp
        refine hK _ ?_
        clear hK K
      refine wpG_val (.pointer (some ⟨tb, 0, none⟩)) (by first | rfl | go_simp) (fun X hX => by have cc := (B8d.fr0 hX).cell; go_simp) ?_
      simp only [Act.put, List.setIfInBounds_toArray, List.set_cons_zero, List.set_cons_succ]
      iterate 8
        refine wpG_pure fun K hK => ?_
        go_simp
        refine hK _ ?_
        clear hK K
      refine wpG_val (strL x.name) (by first | rfl | go_simp) (fun X hX => by have cc := kd X hX; go_simp) ?_
      simp only [Act.put, List.setIfInBounds_toArray, List.set_cons_zero, List.set_cons_succ]
      iterate 4
        refine wpG_pure fun K hK => ?_
        go_simp
        refine hK _ ?_
        clear hK K
      refine wpG_val (strL x.name) (by first | rfl | go_simp) (fun X hX => by have cc := (B8d.fr0 hX).cell; go_simp) ?_
      simp only [Act.put, List.setIfInBounds_toArray, List.set_cons_zero, List.set_cons_succ]
      iterate 5
        refine wpG_pure fun K hK => ?_
        go_simp
        refine hK _ ?_
        clear hK K
      refine wpG_val (.bool x.on) (by first | rfl | go_simp) (fun X hX => by have cc := (B8d.fr0 hX).cell; go_simp) ?_
      simp only [Act.put, List.setIfInBounds_toArray, List.set_cons_zero, List.set_cons_succ]
      iterate 4
        refine wpG_pure fun K hK => ?_
        go_simp
        refine hK _ ?_
        clear hK K
      refine wpG_val (.bool x.on) (by first | rfl | go_simp) (fun X hX => by have cc := kd X hX; go_simp) ?_
      simp only [Act.put, List.setIfInBounds_toArray, List.set_cons_zero, List.set_cons_succ]
      iterate 4
        refine wpG_pure fun K hK => ?_
        go_simp
        refine hK _ ?_
        clear hK K
      refine wpG_val (.bool x.use) (by first | rfl | go_simp) (fun X hX => by have cc := (B8d.fr0 hX).cell; go_simp) ?_
      simp only [Act.put, List.setIfInBounds_toArray, List.set_cons_zero, List.set_cons_succ]
      iterate 4
        refine wpG_pure fun K hK => ?_
        go_simp
        refine hK _ ?_
        clear hK K
      refine wpG_val (.bool x.use) (by first | rfl | go_simp) (fun X hX => by have cc := kd X hX; go_simp) ?_
      simp only [Act.put, List.setIfInBounds_toArray, List.set_cons_zero, List.set_cons_succ]
      iterate 4
        refine wpG_pure fun K hK => ?_
        go_simp
        refine hK _ ?_
        clear hK K
      refine wpG_val (.pointer (some ⟨tb, 0, none⟩)) (by first | rfl | go_simp) (fun X hX => by have cc := (B8d.fr0 hX).cell; go_simp) ?_
      simp only [Act.put, List.setIfInBounds_toArray, List.set_cons_zero, List.set_cons_succ]
      iterate 5
        refine wpG_pure fun K hK => ?_
        go_simp
        refine hK _ ?_
        clear hK K
      refine wpG_val (.int .i64 x.g) (by first | rfl | go_simp) (fun X hX => by have cc := kd X hX; go_simp) ?_
      simp only [Act.put, List.setIfInBounds_toArray, List.set_cons_zero, List.set_cons_succ]
      refine wpG_one fun K hK => ?_
      go_simp
      refine (Grain_calls tb bm x.S x.g x.l _ (hB6.fr0 hFd)).mono ?_
      rintro e wa ⟨rfl, rfl⟩
      refine hK _ _ (Fr.refl _ _) ?_
      clear hK K
      iterate 4
        refine wpG_pure fun K hK => ?_
        go_simp
        refine hK _ ?_
        clear hK K
      refine wpG_val (.pointer (some ⟨tb, 0, none⟩)) (by first | rfl | go_simp) (fun X hX => by have cc := (B8d.fr0 hX).cell; go_simp) ?_
      simp only [Act.put, List.setIfInBounds_toArray, List.set_cons_zero, List.set_cons_succ]
      iterate 4
        refine wpG_pure fun K hK => ?_
        go_simp
        refine hK _ ?_
        clear hK K
      refine wpG_val (.agg #[.int .i64 x.S, .int .i64 x.g, .slice ua un uc]) (by first | rfl | go_simp) (fun X hX => by have cc := kd X hX; go_simp) ?_
      simp only [Act.put, List.setIfInBounds_toArray, List.set_cons_zero, List.set_cons_succ]
      refine wpG_one fun K hK => ?_
      go_simp
      refine (Row_calls tb bm x.S x.g x.l _ (hB6.fr0 hFd)).mono ?_
      rintro e wb ⟨v1, rfl, hs1, hfb⟩
      refine hK _ _ (hfb) ?_
      clear hK K
      refine wpG_one fun K hK => ?_
      go_simp
      refine (rRow_calls x.S x.g (.slice ua un uc) x.l wb (SlF.fr0 (SlF.fr0 hrow6.1 hFd) hfb) hok.size hok.g hok.len).mono ?_
      rintro e wc ⟨v2, rfl, hs2, hfc2⟩
      refine hK _ _ (hfb.trans0 hfc2) ?_
      clear hK K
      refine wpG_one fun K hK => ?_
      go_simp
      refine (SameExt_calls v1 v2 _ _ wc (SlF.fr0 hs1 hfc2) hs2).mono ?_
      rintro e wd ⟨rfl, hfd⟩
      rw [decide_eq_true rfl]
      have hFe := (hfb.trans0 hfc2).trans0 hfd
      refine hK _ _ (hFe) ?_
      clear hK K
      iterate 2
        refine wpG_pure fun K hK => ?_
        go_simp
        refine hK _ ?_
        clear hK K
      refine wpG_end ?_
      have hF7 := (hF6.trans0 hFd).trans0 hFe
      clear kd B8d d0 d1 d2 d3 d4 d5
      go_wp2
      go_roundw
      case rel => exact ⟨k + 1, by omega, by go_num, hF7⟩
      case measure => simp [intOf]; omega
    · go_wp2
      go_ret
      exact ⟨rfl, hf4.trans0 hF⟩
end Go.Proofs.YtiifmakhfpllnaaGreat

namespace Go.Proofs.YtiifmakhfpllnaaGreat
open Go.RowKit Go.Maps
attribute [local go_sem] mapAt_alloc mapAt_setCell mapAt_drew mapAt_drewN cells_str store_str
/-- the directory and the reference's bitmaps -/
structure Both (w0 w : World) (db mb : Nat) (L : List Cel) (v : Value) (P : List (Ent × Value)) : Prop where
  st : StD w0 w db mb L
  ref : RefE (homes db mb L) w v P
  same : P.map (·.1) = L.map (·.x)
theorem Both.keep {w0 w w' : World} {db mb : Nat} {L : List Cel} {v : Value} {P : List (Ent × Value)} (h : Both w0 w db mb L v P) (hf : Fr [] w w') : Both w0 w' db mb L v P := ⟨h.st.keep hf, h.ref.fr0 hf, h.same⟩
end Go.Proofs.YtiifmakhfpllnaaGreat
