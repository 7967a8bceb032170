/-
  A directory's bytes, in plain Lean.
-/
import Derived.Test.YtiifmakhfpllnaaGreatM32
import Derived.Test.YtiifmakhfpllnaaGreatM27
import Derived.Test.YtiifmakhfpllnaaGreatM19
namespace Go.Proofs.YtiifmakhfpllnaaGreat
open Go.RowKit Go.Maps

def bn (b : Bool) : Nat := if b = true then 1 else 0
theorem bn_lt (b : Bool) : bn b < 256 ^ 1 := by cases b <;> decide
def encE (clean : Bool) (x : Ent) : List UInt8 := numL 1 x.name.length ++ (x.name ++ (numL 1 (bn x.on) ++ (numL 1 (bn (x.use && clean)) ++ (numL 2 (encB x.S x.g x.l).length ++ encB x.S x.g x.l))))
def encD (E : List Ent) (clean : Bool) : List UInt8 := numL 1 E.length ++ E.flatMap (encE clean)
theorem nbB_le {n : Nat} (h : n ≤ 4096) : nbB n ≤ 512 := by unfold nbB; omega
theorem OkE.g {x : Ent} (h : OkE x) : 0 < x.g ∧ x.g ≤ 64 := by have := pow2_le h.pow; omega
theorem OkE.short {x : Ent} (h : OkE x) : (encB x.S x.g x.l).length ≤ 515 := by
  rw [encB_length, h.len]
  have := nbB_le (gran_le h.size h.g.1)
  omega
theorem encE_len {x : Ent} (h : OkE x) (clean : Bool) : (encE clean x).length ≤ 535 := by
  have := h.short
  have := okName_len h.name
  simp only [encE, List.length_append, numL_length]
  omega
theorem encD_flat_len {E : List Ent} (h : ∀ x ∈ E, OkE x) (clean : Bool) : (E.flatMap (encE clean)).length ≤ E.length * 535 := by
  induction E with
  | nil => simp
  | cons x l ih =>
    have h1 := encE_len (h x List.mem_cons_self) clean
    have h2 := ih fun y hy => h y (List.mem_cons_of_mem _ hy)
    rw [List.flatMap_cons, List.length_append, List.length_cons]
    omega
theorem encD_len {E : List Ent} (h : OkD E) (clean : Bool) : (encD E clean).length ≤ 5000 := by
  have h1 := encD_flat_len h.all clean
  have h2 := h.few
  unfold encD
  rw [List.length_append, numL_length]
  omega
/-- of no use -/
def noUse (x : Ent) : Ent := { x with use := false }
theorem encD_clean (E : List Ent) : encD E false = encD (E.map noUse) true := by
  unfold encD
  rw [List.length_map, List.flatMap_map]
  congr 2
  funext x
  simp only [encE, noUse, Bool.and_false, Bool.false_and]
theorem noUse_ok {E : List Ent} (h : OkD E) : OkD (E.map noUse) := by
  refine ⟨fun x hx => ?_, by rw [List.length_map]; exact h.few, by rw [List.pairwise_map]; exact h.rising⟩
  obtain ⟨y, hy, rfl⟩ := List.mem_map.1 hx
  have := h.all y hy
  exact ⟨this.name, this.size, this.pow, this.len⟩
/-! ### what is read of what was written -/
theorem rdNum_of {W n : Nat} (r : List UInt8) (h : n < 256 ^ W) : rdNum (numL W n ++ r) 0 W = (r, 0, n) := by
  have hl := numL_length W n
  unfold rdNum
  rw [if_neg (by simp), if_neg (by rw [List.length_append, hl]; omega), List.drop_left' hl, List.take_left' hl, valL_numL, Nat.mod_eq_of_lt h]
theorem rdText_of {W : Nat} (s r : List UInt8) (h : s.length < 256 ^ W) : rdText (numL W s.length ++ (s ++ r)) 0 W = (r, 0, s) := by
  unfold rdText
  rw [rdNum_of _ h]
  simp [rdTake]
  omega
end Go.Proofs.YtiifmakhfpllnaaGreat

namespace Go.Proofs.YtiifmakhfpllnaaGreat
open Go.RowKit Go.Maps
attribute [local go_sem] mapAt_alloc mapAt_setCell mapAt_drew mapAt_drewN
theorem one_calls (b : Bool) (w : World) : Calls Tryz.prog 50 #[.bool b] w fun e w' => e = .returned (.int .i64 (bn b : Int)) ∧ w' = w := by
  cases b with
  | false =>
    go_enter Tryz.func50, Tryz.ntmps50
    go_wp2
    go_ret
    exact ⟨rfl, rfl⟩
  | true =>
    go_enter Tryz.func50, Tryz.ntmps50
    go_wp2
    go_ret
    exact ⟨rfl, rfl⟩
theorem EntW.fr0' {w0 w w' : World} {db mb : Nat} {L : List Cel} {c : Cel} (h : EntW w c) (_ : Fr [] w0 w) (hf : Fr [] w w') (_ : DirW w0 db mb L) (_ : c ∈ L) : EntW w' c := h.fr hf (fun _ _ h => by cases h)
theorem take_encE {L : List Cel} {k : Nat} (clean : Bool) (hk : k < L.length) : (L.take (k + 1)).flatMap (fun c => encE clean c.x) = (L.take k).flatMap (fun c => encE clean c.x) ++ encE clean (L[k]'hk).x := by
  rw [List.take_succ_eq_append_getElem hk, List.flatMap_append]
  simp
set_option maxRecDepth 100000 in
set_option maxHeartbeats 1600000 in
theorem dEncode_calls (db mb : Nat) (L : List Cel) (clean : Bool) (w : World) (h : DirW w db mb L) :
    Calls Tryz.prog 12 #[.pointer (some ⟨db, 0, none⟩), .bool clean] w fun e w' => ∃ v, e = .returned v ∧ w'.ownsRow w.heap.size 5 1 v (encD (L.map (·.x)) clean).length ((encD (L.map (·.x)) clean).flatMap byC) ∧ Fr [] w w' := by
  have c0 := h.blk.cell 0
  obtain ⟨es, clock, hm, hi⟩ := h.map
  have hsz := DirW.size h.rising hi
  have hlen := fun ty => run_len_map (P := Tryz.prog) (ty := ty) Tryz.underlying46 w hm
  have h8 := h.few
  rw [hsz] at hlen
  have hok := h.ok
  have hEq : encD (L.map (·.x)) clean = numL 1 L.length ++ L.flatMap (fun c => encE clean c.x) := by unfold encD; rw [List.length_map, List.flatMap_map]
  have HlenE := hidIt fun k => encD_flat_len (E := (L.take k).map (·.x)) (fun x hx => by
    obtain ⟨c, hc, rfl⟩ := List.mem_map.1 hx
    exact hok.all _ (List.mem_map.2 ⟨c, List.mem_of_mem_take hc, rfl⟩)) clean
  rw [hEq]
  clear hsz hEq hok
  go_enter Tryz.func12, Tryz.ntmps12
  go_wp2_with fail
  refine (Put_calls 1 (by omega) [L.length] (by intro x hx; have := List.mem_singleton.1 hx; subst this; (show _ < 256); omega) w.heap.size _ [] w.heap.size 1 _ (World.ownsRow_nil _ _ _ _) (by simp) (by simp) (Blk.new w [_] _) (by simp [Value.ownBlock])).mono ?_
  rintro e w1 ⟨v1, rfl, hown1, hf1, _⟩
  have hF1 : Fr [] w w1 := ((Fr.refl [] w).alloc (.cells #[.int .i64 L.length] 3)).trans hf1 (by simp [Value.ownBlock])
  have e1 : ([] : List UInt8) ++ [L.length].flatMap (numL 1) = numL 1 L.length := by simp
  rw [e1] at hown1
  have hpl := numL_length 1 L.length
  generalize hp : numL 1 L.length = pre at hown1 hpl
  have Hp := hidIt hp
  clear hp
  clear hf1 e1 hlen c0 hm hi
  go_wp2_with fail
  refine (Names_calls db mb L w1 (h.fr0 hF1)).mono ?_
  rintro e w2 ⟨nv, rfl, hnv, hf2, hnw⟩
  have hF2 := hF1.trans0 hf2
  have hl1 := hown1.lt
  replace hown1 := owns_fr hown1 hf2 (by simp)
  clear hf2
  obtain ⟨na, nc, rfl⟩ := hnv.cell
  have hnl : (L.map fun c => c.x.name).length = L.length := List.length_map _
  rw [hnl]
  go_wp2_with fail
  have hb1 := own_base hown1
  have hz2 := hF2.size
  have hF0 := Fr.refl [] w
  go_loopw [5, 8, 9, 23] (fun v _ _ i wr => ∃ k : Nat, k ≤ L.length ∧ i = .int .i64 k ∧ wr.ownsRow w.heap.size 5 1 v (pre ++ (L.take k).flatMap (fun c => encE clean c.x)).length ((pre ++ (L.take k).flatMap (fun c => encE clean c.x)).flatMap byC) ∧ (∀ x, v.ownBlock = some x → v1.ownBlock = some x ∨ w2.heap.size ≤ x) ∧ Fr v1.ownBlock.toList w2 wr) (fun _ _ _ i _ => L.length - (intOf i).toNat)
  case atStart => exact ⟨0, Nat.zero_le _, rfl, by simpa using hown1, fun x hx => .inl hx, Fr.refl _ _⟩
  case round =>
    clear hown1
    obtain ⟨k, hk, rfl, hown, hob, hf⟩ := hrel
    have hF : Fr [] w wr := hF2.trans hf (fun x hx hl => by have := hb1 x (by simpa using hx); omega)
    by_cases hlt : k < L.length
    · have hst := hidIt (take_encE clean hlt)
      have hD := h.fr0 hF
      have hc : L[k]'hlt ∈ L := List.getElem_mem _
      have hnm : (L.map fun c => c.x.name).getD k [] = (L[k]'hlt).x.name := by
        rw [List.getD_eq_getElem?_getD, List.getElem?_map, List.getElem?_eq_getElem hlt]; rfl
      obtain ⟨nb, noff, rfl, hnb, ccn0⟩ := SlT.at hnv (i := k) (by rw [hnl]; exact hlt)
      rw [hnm] at ccn0
      have ccn : wr.cell? ⟨nb, noff + k, none⟩ = some (strL (L[k]'hlt).x.name) := by
        rw [World.cell?_of_block (hf.block nb hnb (fun hx => by have := (hl1 nb (by simpa using hx)).2; have := hnw nb rfl; omega))]; exact ccn0
      clear ccn0
      have hfc := find_rising h.rising hc
      have HL := HlenE.out k
      have htk : (L.take k).length ≤ 8 := by simp; omega
      rw [List.flatMap_map, List.length_map] at HL
      generalize L[k]'hlt = c at *
      generalize (L.take k).flatMap (fun c => encE clean c.x) = body at *
      have hE := h.ents c hc
      have hE1 := hD.ents c hc
      have ok : OkE c.x := ⟨h.names c hc, hE.bits.size, hE.pow, hE.bits.len⟩
      have hs := okName_len ok.name
      have hsh := ok.short
      have hclt := hE.blk.lt
      have c0 := hD.blk.cell 0
      obtain ⟨es, clock, hm, hi⟩ := hD.map
      have hl := lookD hi (s := c.x.name) (by unfold maxLen; omega) wr hm
      rw [hfc] at hl
      unfold cpt Cel.ptr at hl
      have hn0 : (pre ++ body).length ≤ 5000 := by simp only [List.length_append, hpl]; omega
      have hz := hF.size
      clear hfc hm hi HL htk HlenE
      go_wp2_with fail
      refine (oText_calls 1 (by omega) w.heap.size _ _ c.x.name wr hown (by (show _ < 256); omega) (by omega) (by omega) hz).mono ?_
      rintro e w3 ⟨v3, rfl, hown3, hf3, hob3⟩
      have hf3' : Fr v1.ownBlock.toList w2 w3 := hf.trans hf3 (fun x hx hl => by
        rcases hob x (by simpa using hx) with h | h
        · simp [h]
        · omega)
      have hob3' : ∀ x, v3.ownBlock = some x → v1.ownBlock = some x ∨ w2.heap.size ≤ x := fun x hx => by
        rcases hob3 x hx with h | h
        · exact hob x h
        · have := hf.size; exact .inr (by omega)
      have hn1 : (pre ++ body ++ numL 1 c.x.name.length ++ c.x.name).length ≤ 5020 := by simp only [List.length_append, numL_length] at hn0 ⊢; omega
      have hb3 := own_base hown3
      have hnot : ∀ k, k < w.heap.size → k ∉ v3.ownBlock.toList := fun k hk hx => by have := hb3 k (by simpa using hx); omega
      have hF3 : Fr [] w w3 := hF2.trans hf3' (fun x hx hl => by have := hb1 x (by simpa using hx); omega)
      have BE3 : Blk w3.drew c.eb [strL c.x.name, .bool c.x.on, .bool c.x.use, .pointer (some ⟨c.tb, 0, none⟩)] 56 := (hE.blk.fr0 hF3).drew
      have hz3 := hF3.size
      have hn2 := hn1
      clear hown hob hf hf3 hob3 c0 hl hD hE1 ccn
      cases hu : c.x.use with
      | false =>
        rw [hu] at BE3
        have Hst : Hid ((L.take (k + 1)).flatMap (fun c => encE clean c.x) = body ++ (numL 1 c.x.name.length ++ (c.x.name ++ (numL 1 (bn c.x.on) ++ (numL 1 (bn false) ++ (numL 2 (encB c.x.S c.x.g c.x.l).length ++ encB c.x.S c.x.g c.x.l)))))) := hidIt (by rw [hst.out]; unfold encE; rw [hu]; rfl)
        clear hst
        go_wp2_with fail
        refine wp_region_G (Fr v3.ownBlock.toList w3.drew) [(true, 0), (true, 1), (true, 2), (true, 3), (true, 4), (true, 6), (true, 7), (true, 8), (true, 9), (false, 5), (true, 10), (true, 11), (true, 12), (false, 13), (false, 14), (false, 15), (true, 16), (true, 17), (true, 18), (true, 19)] (by as_aux_lemma => kernel_rfl) (by as_aux_lemma => kernel_rfl) (Fr.refl _ _) ?_
        simp only [inOrder, List.map_cons, List.map_nil, List.getD_cons_zero, List.getD_cons_succ]
        iterate 4
          refine wpG_pure fun K hK => ?_
          go_simp
          refine hK _ ?_
          clear hK K
        refine wpG_val (.bool c.x.on) (by first | rfl | go_simp) (fun X hX => by have cc := (BE3.fr hX (hnot _ hclt)).cell; go_simp) ?_
        simp only [Act.put, List.setIfInBounds_toArray, List.set_cons_zero, List.set_cons_succ]
        iterate 3
          refine wpG_pure fun K hK => ?_
          go_simp
          refine hK _ ?_
          clear hK K
        refine wpG_val (.bool false) (by first | rfl | go_simp) (fun X hX => by have cc := (BE3.fr hX (hnot _ hclt)).cell; go_simp) ?_
        simp only [Act.put, List.setIfInBounds_toArray, List.set_cons_zero, List.set_cons_succ]
        refine wpG_one fun K hK => ?_
        go_simp
        refine (one_calls c.x.on _).mono ?_
        rintro e wa ⟨rfl, rfl⟩
        refine hK _ _ (Fr.refl _ _) ?_
        clear hK K
        iterate 3
          refine wpG_pure fun K hK => ?_
          go_simp
          refine hK _ ?_
          clear hK K
        refine wpG_one fun K hK => ?_
        go_simp
        refine (one_calls false _).mono ?_
        rintro e wa ⟨rfl, rfl⟩
        refine hK _ _ (Fr.refl _ _) ?_
        clear hK K
        refine wpG_one fun K hK => ?_
        go_simp
        refine hK _ _ ((Fr.refl _ _).alloc _) ?_
        clear hK K
        refine wpG_one fun K hK => ?_
        go_simp
        refine (Put_calls 1 (by omega) [bn c.x.on, bn false] (by intro x hx; simp at hx; rcases hx with rfl | rfl <;> exact bn_lt _) w.heap.size v3 _ w3.heap.size 2 _ ((owns_drew hown3).alloc _) (by simp only [List.length_cons, List.length_nil]; omega) (by simp; omega) (Blk.new w3.drew [_, _] _) (fun k hk e => by have := (hown3.lt k hk).2; omega)).mono ?_
        rintro e w4 ⟨v4, rfl, hown4, hf4, hob4⟩
        have hf34 : Fr v3.ownBlock.toList w3.drew w4 := ((Fr.refl _ w3.drew).alloc (.cells #[.int .i64 (bn c.x.on), .int .i64 (bn false)] 3)).trans' hf4
        refine hK _ _ (hf34) ?_
        clear hK K
        iterate 4
          refine wpG_pure fun K hK => ?_
          go_simp
          refine hK _ ?_
          clear hK K
        refine wpG_end ?_
        have e4 : (pre ++ body ++ numL 1 c.x.name.length ++ c.x.name) ++ [bn c.x.on, bn false].flatMap (numL 1) = pre ++ body ++ numL 1 c.x.name.length ++ c.x.name ++ numL 1 (bn c.x.on) ++ numL 1 (bn false) := by simp
        rw [e4] at hown4
        have hf4' : Fr v1.ownBlock.toList w2 w4 := hf3'.trans ((Fr.refl v3.ownBlock.toList w3).drew.trans' hf34) (fun x hx hl => by
          rcases hob3' x (by simpa using hx) with h | h
          · simp [h]
          · omega)
        simp only [World.size_alloc, World.size_drew] at hob4
        have hob4' : ∀ x, v4.ownBlock = some x → v1.ownBlock = some x ∨ w2.heap.size ≤ x := fun x hx => by
          rcases hob4 x hx with h | h
          · exact hob3' x h
          · have := hf3'.size; exact .inr (by omega)
        have hF4 : Fr [] w w4 := hF2.trans hf4' (fun x hx hl => by have := hb1 x (by simpa using hx); omega)
        have hn4 : (pre ++ body ++ numL 1 c.x.name.length ++ c.x.name ++ numL 1 (bn c.x.on) ++ numL 1 (bn false)).length ≤ 10000 := by have := hn1; simp only [List.length_append, numL_length] at this ⊢; omega
        clear hf4 hf34 hown3 hob3' hf3' hob4 e4 BE3 hnot hn1 hn2
        have hE4 := hE.fr0' hF0 hF4 h hc
        have ce4 := hE4.blk.cell
        go_wp2_with fail
        refine (EncodeB_calls c.tb c.mb c.x.S c.x.g c.x.l w4 hE4.bits).mono ?_
        rintro e w5 ⟨bv, rfl, hbo, hf5⟩
        have hcv := conv_str (SlF.of_owns hbo)
        have hown5 := owns_fr hown4 hf5 (by simp)
        clear hbo
        go_wp2_with fail
        refine (oText_calls 2 (by omega) w.heap.size _ _ (encB c.x.S c.x.g c.x.l) w5 hown5 (by (show _ < 65536); omega) (by omega) (by omega) (by have := hF4.size; have := hf5.size; omega)).mono ?_
        rintro e w6 ⟨v6, rfl, hown6, hf6, hob6⟩
        have e6 : pre ++ body ++ numL 1 c.x.name.length ++ c.x.name ++ numL 1 (bn c.x.on) ++ numL 1 (bn false) ++ numL 2 (encB c.x.S c.x.g c.x.l).length ++ encB c.x.S c.x.g c.x.l = pre ++ (L.take (k + 1)).flatMap (fun c => encE clean c.x) := by rw [Hst.out]; simp only [List.append_assoc]
        rw [e6] at hown6
        have hf6' : Fr v1.ownBlock.toList w2 w6 := (hf4'.trans0 hf5).trans hf6 (fun x hx hl => by
          rcases hob4' x (by simpa using hx) with h | h
          · simp [h]
          · omega)
        have hob6' : ∀ x, v6.ownBlock = some x → v1.ownBlock = some x ∨ w2.heap.size ≤ x := fun x hx => by
          rcases hob6 x hx with h | h
          · exact hob4' x h
          · have := hf4'.size; have := hf5.size; exact .inr (by omega)
        clear hown4 hob4' hf4' hob6 hf6 hf5 hown5 hcv e6 Hst hE4 ce4
        go_wp2
        go_roundw
        case rel => exact ⟨k + 1, by omega, by go_num, hown6, hob6', hf6'⟩
        case measure => simp [intOf]; omega
      | true =>
        rw [hu] at BE3
        have Hst : Hid ((L.take (k + 1)).flatMap (fun c => encE clean c.x) = body ++ (numL 1 c.x.name.length ++ (c.x.name ++ (numL 1 (bn c.x.on) ++ (numL 1 (bn clean) ++ (numL 2 (encB c.x.S c.x.g c.x.l).length ++ encB c.x.S c.x.g c.x.l)))))) := hidIt (by rw [hst.out]; unfold encE; rw [hu]; rfl)
        clear hst
        go_wp2_with fail
        refine wp_region_G (Fr v3.ownBlock.toList w3.drew) [(true, 0), (true, 1), (true, 2), (true, 3), (true, 4), (true, 6), (true, 7), (true, 8), (true, 9), (false, 5), (true, 10), (true, 11), (true, 12), (false, 13), (false, 14), (false, 15), (true, 16), (true, 17), (true, 18), (true, 19)] (by as_aux_lemma => kernel_rfl) (by as_aux_lemma => kernel_rfl) (Fr.refl _ _) ?_
        simp only [inOrder, List.map_cons, List.map_nil, List.getD_cons_zero, List.getD_cons_succ]
        iterate 4
          refine wpG_pure fun K hK => ?_
          go_simp
          refine hK _ ?_
          clear hK K
        refine wpG_val (.bool c.x.on) (by first | rfl | go_simp) (fun X hX => by have cc := (BE3.fr hX (hnot _ hclt)).cell; go_simp) ?_
        simp only [Act.put, List.setIfInBounds_toArray, List.set_cons_zero, List.set_cons_succ]
        iterate 3
          refine wpG_pure fun K hK => ?_
          go_simp
          refine hK _ ?_
          clear hK K
        refine wpG_val (.bool true) (by first | rfl | go_simp) (fun X hX => by have cc := (BE3.fr hX (hnot _ hclt)).cell; go_simp) ?_
        simp only [Act.put, List.setIfInBounds_toArray, List.set_cons_zero, List.set_cons_succ]
        refine wpG_one fun K hK => ?_
        go_simp
        refine (one_calls c.x.on _).mono ?_
        rintro e wa ⟨rfl, rfl⟩
        refine hK _ _ (Fr.refl _ _) ?_
        clear hK K
        iterate 3
          refine wpG_pure fun K hK => ?_
          go_simp
          refine hK _ ?_
          clear hK K
        refine wpG_one fun K hK => ?_
        go_simp
        refine (one_calls clean _).mono ?_
        rintro e wa ⟨rfl, rfl⟩
        refine hK _ _ (Fr.refl _ _) ?_
        clear hK K
        refine wpG_one fun K hK => ?_
        go_simp
        refine hK _ _ ((Fr.refl _ _).alloc _) ?_
        clear hK K
        refine wpG_one fun K hK => ?_
        go_simp
        refine (Put_calls 1 (by omega) [bn c.x.on, bn clean] (by intro x hx; simp at hx; rcases hx with rfl | rfl <;> exact bn_lt _) w.heap.size v3 _ w3.heap.size 2 _ ((owns_drew hown3).alloc _) (by simp only [List.length_cons, List.length_nil]; omega) (by simp; omega) (Blk.new w3.drew [_, _] _) (fun k hk e => by have := (hown3.lt k hk).2; omega)).mono ?_
        rintro e w4 ⟨v4, rfl, hown4, hf4, hob4⟩
        have hf34 : Fr v3.ownBlock.toList w3.drew w4 := ((Fr.refl _ w3.drew).alloc (.cells #[.int .i64 (bn c.x.on), .int .i64 (bn clean)] 3)).trans' hf4
        refine hK _ _ (hf34) ?_
        clear hK K
        iterate 4
          refine wpG_pure fun K hK => ?_
          go_simp
          refine hK _ ?_
          clear hK K
        refine wpG_end ?_
        have e4 : (pre ++ body ++ numL 1 c.x.name.length ++ c.x.name) ++ [bn c.x.on, bn clean].flatMap (numL 1) = pre ++ body ++ numL 1 c.x.name.length ++ c.x.name ++ numL 1 (bn c.x.on) ++ numL 1 (bn clean) := by simp
        rw [e4] at hown4
        have hf4' : Fr v1.ownBlock.toList w2 w4 := hf3'.trans ((Fr.refl v3.ownBlock.toList w3).drew.trans' hf34) (fun x hx hl => by
          rcases hob3' x (by simpa using hx) with h | h
          · simp [h]
          · omega)
        simp only [World.size_alloc, World.size_drew] at hob4
        have hob4' : ∀ x, v4.ownBlock = some x → v1.ownBlock = some x ∨ w2.heap.size ≤ x := fun x hx => by
          rcases hob4 x hx with h | h
          · exact hob3' x h
          · have := hf3'.size; exact .inr (by omega)
        have hF4 : Fr [] w w4 := hF2.trans hf4' (fun x hx hl => by have := hb1 x (by simpa using hx); omega)
        have hn4 : (pre ++ body ++ numL 1 c.x.name.length ++ c.x.name ++ numL 1 (bn c.x.on) ++ numL 1 (bn clean)).length ≤ 10000 := by have := hn1; simp only [List.length_append, numL_length] at this ⊢; omega
        clear hf4 hf34 hown3 hob3' hf3' hob4 e4 BE3 hnot hn1 hn2
        have hE4 := hE.fr0' hF0 hF4 h hc
        have ce4 := hE4.blk.cell
        go_wp2_with fail
        refine (EncodeB_calls c.tb c.mb c.x.S c.x.g c.x.l w4 hE4.bits).mono ?_
        rintro e w5 ⟨bv, rfl, hbo, hf5⟩
        have hcv := conv_str (SlF.of_owns hbo)
        have hown5 := owns_fr hown4 hf5 (by simp)
        clear hbo
        go_wp2_with fail
        refine (oText_calls 2 (by omega) w.heap.size _ _ (encB c.x.S c.x.g c.x.l) w5 hown5 (by (show _ < 65536); omega) (by omega) (by omega) (by have := hF4.size; have := hf5.size; omega)).mono ?_
        rintro e w6 ⟨v6, rfl, hown6, hf6, hob6⟩
        have e6 : pre ++ body ++ numL 1 c.x.name.length ++ c.x.name ++ numL 1 (bn c.x.on) ++ numL 1 (bn clean) ++ numL 2 (encB c.x.S c.x.g c.x.l).length ++ encB c.x.S c.x.g c.x.l = pre ++ (L.take (k + 1)).flatMap (fun c => encE clean c.x) := by rw [Hst.out]; simp only [List.append_assoc]
        rw [e6] at hown6
        have hf6' : Fr v1.ownBlock.toList w2 w6 := (hf4'.trans0 hf5).trans hf6 (fun x hx hl => by
          rcases hob4' x (by simpa using hx) with h | h
          · simp [h]
          · omega)
        have hob6' : ∀ x, v6.ownBlock = some x → v1.ownBlock = some x ∨ w2.heap.size ≤ x := fun x hx => by
          rcases hob6 x hx with h | h
          · exact hob4' x h
          · have := hf4'.size; have := hf5.size; exact .inr (by omega)
        clear hown4 hob4' hf4' hob6 hf6 hf5 hown5 hcv e6 Hst hE4 ce4
        go_wp2
        go_roundw
        case rel => exact ⟨k + 1, by omega, by go_num, hown6, hob6', hf6'⟩
        case measure => simp [intOf]; omega
    · have hke : k = L.length := by omega
      subst hke
      rw [List.take_length] at hown
      go_wp2
      go_ret
      exact ⟨_, rfl, by rw [Hp.out]; exact hown, hF⟩
end Go.Proofs.YtiifmakhfpllnaaGreat

namespace Go.Proofs.YtiifmakhfpllnaaGreat
open Go.RowKit Go.Maps
attribute [local go_sem] mapAt_alloc mapAt_setCell mapAt_drew mapAt_drewN cells_str store_str len_str

theorem SlOD.at {w : World} {a : Option Addr} {cap n : Nat} {l : List OpD} (h : SlOD w (.slice a n cap) l) {i : Nat} (hi : i < l.length) : ∃ b off, a = some ⟨b, off, none⟩ ∧ b < w.heap.size ∧
    ∀ j u, (opdC (l.getD i zOD))[j]? = some u → w.cell? ⟨b, off + i * 8 + j, none⟩ = some u := by
  obtain ⟨a', cap', hv, _, _, hc⟩ := h.open
  cases hv
  obtain ⟨b, off, rfl, hb, hc⟩ := hc 8 (fun _ => rfl) (by omega) i _ (getD_some zOD hi)
  exact ⟨b, off, rfl, hb, fun j u hu => by rw [Nat.add_assoc]; exact hc j u hu⟩
def someB (w : World) (e : Ending) (w' : World) : Prop := ∃ b, e = .returned (.bool b) ∧ Fr [] w w'
theorem getD_mem {α : Type} {l : List α} {i : Nat} (h : i < l.length) (z : α) : l.getD i z ∈ l := by
  rw [List.getD_eq_getElem?_getD, List.getElem?_eq_getElem h]
  exact List.getElem_mem _
set_option maxRecDepth 100000 in
set_option maxHeartbeats 1600000 in
theorem lFew_calls (v : Value) (l : List OpD) (w : World) (hv : SlOD w v l) : Calls Tryz.prog 5 #[v] w (someB w) := by
  obtain ⟨a, cap, rfl, hlc, hcm, _⟩ := hv.open
  unfold maxLen at hcm
  go_enter Tryz.func5, Tryz.ntmps5
  go_wp2
  go_loopw [3, 5, 8] (fun n _ i wr => ∃ k : Nat, k ≤ l.length ∧ i = .int .i64 k ∧ (∃ m, n = .int .i64 m) ∧ Fr [] w wr) (fun _ _ i _ => l.length - (intOf i).toNat)
  case atStart => exact ⟨0, Nat.zero_le _, rfl, ⟨0, rfl⟩, Fr.refl _ _⟩
  case round =>
    obtain ⟨k, hk, rfl, ⟨m, rfl⟩, hF⟩ := hrel
    by_cases hlt : k < l.length
    · obtain ⟨b, off, rfl, hb, cc⟩ := SlOD.at (SlF.fr0 hv hF) hlt
      generalize l.getD k zOD = o at *
      obtain ⟨p, s, t, sec, gr, fr, lo, on⟩ := o
      have c0 := cc 0 _ rfl
      have c1 := cc 1 _ rfl
      have c2 := cc 2 _ rfl
      have c3 := cc 3 _ rfl
      have c4 := cc 4 _ rfl
      have c5 := cc 5 _ rfl
      have c6 := cc 6 _ rfl
      have c7 := cc 7 _ rfl
      clear cc
      simp only [Nat.add_zero] at c0
      by_cases h1 : 60 < sec
      · by_cases h2 : sec ≤ 4096
        · go_wp2
          go_ret
          exact ⟨_, rfl, hF.alloc _⟩
        · go_wp2
          go_roundw
          case rel => exact ⟨k + 1, by omega, by go_num, ⟨_, rfl⟩, hF.alloc _⟩
          case measure => simp [intOf]; omega
      · go_wp2
        go_roundw
        case rel => exact ⟨k + 1, by omega, by go_num, ⟨_, rfl⟩, hF.alloc _⟩
        case measure => simp [intOf]; omega
    · have hke : ¬ (k : Int) < l.length := by omega
      have hke2 : (k : Int) = l.length := by omega
      by_cases h60 : (l.length : Int) ≤ 60
      · go_wp2
        go_ret
        exact ⟨_, rfl, hF⟩
      · go_wp2
        go_ret
        exact ⟨_, rfl, hF⟩
def nA : List UInt8 := [97]
def xA0 : Ent := ⟨nA, true, true, 8, 2, [false, false, false, false]⟩
def xA1 : Ent := ⟨nA, true, true, 8, 2, [false, true, false, false]⟩
def xA2 : Ent := ⟨nA, false, true, 8, 2, [false, true, false, false]⟩
theorem strA : Value.string ⟨#[97]⟩ = strL nA := rfl
theorem allC_one (c : Cel) (f : Ent → Ent) : allC [c] f = [c.on f] := rfl
theorem oneC_one (c : Cel) (f : Ent → Ent) (s : List UInt8) (h : c.x.name = s) : oneC [c] s f = [c.on f] := by
  unfold oneC chC
  simp [h]
theorem findC_one (c : Cel) (s : List UInt8) (h : c.x.name = s) : findC [c] s = some c := by
  unfold findC
  simp [h]
set_option maxRecDepth 100000 in
set_option maxHeartbeats 1600000 in
theorem lAlive_calls (w : World) : Calls Tryz.prog 6 #[] w fun e w' => e = .returned (.bool true) ∧ Fr [] w w' := by
  have hA := strA
  obtain ⟨sA, hsA⟩ : ∃ s, s = strL nA := ⟨_, rfl⟩
  rw [← hsA] at hA
  have HA := hidIt hsA
  clear hsA
  go_enter Tryz.func6, Tryz.ntmps6
  go_wp2_with fail
  refine (dNew_calls w).mono ?_
  rintro e w1 ⟨db, mb, rfl, n1, n2, hD, hf⟩
  go_wp2_with fail
  refine (New_yes 8 2 _ (by decide)).mono ?_
  rintro e w2 ⟨tb, bm, rfl, n3, n4, hB, hf2⟩
  have hF2 := hf.trans0 hf2
  replace hD := hD.fr0 hf2
  clear hf hf2
  go_wp2_with fail
  rw [HA.out]
  refine (Add_yes db mb [] nA tb bm _ _ _ _ hD (by decide) rfl (by decide) hB (by decide)).mono ?_
  rintro e w3 ⟨rfl, c, hcx, hD3, hcn, hf3⟩
  have hxc : c.x = xA0 := hcx
  have hD3 : DirW w3 db mb [c] := hD3
  have hF3 : Fr [] w w3 := hF2.trans hf3 (fun x hx hl => by have := List.mem_singleton.1 hx; omega)
  have hnm : c.x.name = nA := by rw [hxc]; rfl
  have hfeet : ∀ k ∈ feet [c], w.heap.size ≤ k := fun k hk => by
    have := hcn k (by simpa [feet] using hk)
    have := hF2.size
    omega
  clear hcx hcn hB hD hf3 hF2
  go_wp2_with fail
  rw [HA.out]
  refine (Add_there db mb [c] nA ⟨tb, 0, none⟩ _ hD3 (by decide) (.inl (by rw [findC_one c nA hnm]; simp))).mono ?_
  rintro e w4 ⟨rfl, hf4⟩
  replace hD3 := hD3.fr0 hf4
  have hF4 := hF3.trans0 hf4
  clear hf4 hF3
  go_wp2_with fail
  refine (dWrite_calls db mb [c] 3 1 _ hD3 (by omega)).mono ?_
  rintro e w5 ⟨rfl, hD5, hf5⟩
  rw [allC_one] at hD5
  have hx5 : (c.on (wrE 3 1)).x = xA1 := by show wrE 3 1 c.x = xA1; rw [hxc]; kernel_rfl
  have hfeet5 : feet [c.on (wrE 3 1)] = feet [c] := rfl
  generalize c.on (wrE 3 1) = c5 at *
  have hF5 : Fr [] w w5 := hF4.trans hf5 (fun x hx hl => by have := hfeet x hx; omega)
  rw [← hfeet5] at hfeet
  have hnm5 : c5.x.name = nA := by rw [hx5]; rfl
  clear hf5 hF4 hD3 hfeet5 hxc hnm
  go_wp2_with fail
  rw [HA.out]
  refine (Switch_calls db mb [c5] nA false _ hD5 (by decide)).mono ?_
  rintro e w6 ⟨rfl, hD6, hf6⟩
  have h0 : dn (findC [c5] nA) = 0 := by rw [findC_one c5 nA hnm5]; rfl
  rw [h0]
  rw [oneC_one c5 _ _ hnm5] at hD6
  have hx6 : (c5.on (onE false)).x = xA2 := by show onE false c5.x = xA2; rw [hx5]; kernel_rfl
  have hfeet6 : feet [c5.on (onE false)] = feet [c5] := rfl
  generalize c5.on (onE false) = c6 at *
  have hF6 : Fr [] w w6 := hF5.trans hf6 (fun x hx hl => by have := hfeet x hx; omega)
  rw [← hfeet6] at hfeet
  clear hf6 hF5 hD5 hfeet6 hx5 hnm5 h0
  go_wp2_with fail
  refine (dWrite_calls db mb [c6] 6 1 _ hD6 (by omega)).mono ?_
  rintro e w7 ⟨rfl, hD7, hf7⟩
  rw [allC_one] at hD7
  have hx7 : (c6.on (wrE 6 1)).x = xA2 := by show wrE 6 1 c6.x = xA2; rw [hx6]; kernel_rfl
  generalize c6.on (wrE 6 1) = c7 at *
  have hF7 : Fr [] w w7 := hF6.trans hf7 (fun x hx hl => by have := hfeet x hx; omega)
  have hnm7 : c7.x.name = nA := by rw [hx7]; rfl
  clear hf7 hF6 hD6 hx6 hfeet
  go_wp2_with fail
  rw [HA.out]
  refine (Get_some db mb [c7] nA c7 _ hD7 (by decide) (findC_one c7 nA hnm7)).mono ?_
  rintro e w8 ⟨tb8, mb8, rfl, n8, n9, hB8, hf8⟩
  have hD8 := hD7.fr0 hf8
  have hF8 := hF7.trans0 hf8
  rw [hx7] at hB8
  have henc : encD ([c7].map (·.x)) true = encD [xA2] true := by rw [List.map_cons, List.map_nil, hx7]
  have hlen : (encD [xA2] true).length = 11 := by kernel_rfl
  have hcnt : cnt [false, true, false, false] = 1 := by decide
  unfold entV
  rw [hx7]
  unfold xA2 at hB8 ⊢
  obtain ⟨sn, hsn⟩ : ∃ sn, strL nA = Value.string sn := ⟨_, rfl⟩
  rw [hsn]
  have Hsn := hidIt hsn
  have B9 := Blk.new w8 [.string sn, .bool false, .bool true, .pointer (some ⟨tb8, 0, none⟩)] 56
  have hF9 := (Fr.refl [] w8).alloc (.cells #[.string sn, .bool false, .bool true, .pointer (some ⟨tb8, 0, none⟩)] 56)
  have c9 := B9.cell
  have hB9 := hB8.fr0 hF9
  have hD9 := hD8.fr0 hF9
  clear hsn hf8 hF7 hD7 hx7 hnm7 hA HA
  go_wp2_with fail
  refine (Count_calls tb8 mb8 8 2 _ _ hB9).mono ?_
  rintro e w10 ⟨rfl, rfl⟩
  rw [hcnt]
  go_wp2_with fail
  refine (dEncode_calls db mb [c7] true _ hD9).mono ?_
  rintro e w11 ⟨v11, rfl, hown, hf11⟩
  rw [henc, hlen] at hown
  obtain ⟨va, vc, rfl, _⟩ := Sl.of_owns hown
  go_wp2
  go_ret
  exact ⟨rfl, (hF8.trans0 hF9).trans0 hf11⟩
end Go.Proofs.YtiifmakhfpllnaaGreat

namespace Go.Proofs.YtiifmakhfpllnaaGreat
open Go.RowKit Go.Maps

/-- a directory that was made behind w0; nothing of w0 has turned -/
structure StD (w0 w : World) (db mb : Nat) (L : List Cel) : Prop where
  dir : DirW w db mb L
  new : ∀ k ∈ homes db mb L, w0.heap.size ≤ k
  fr : Fr [] w0 w
section
variable {w0 w w' : World} {db mb : Nat} {L L' : List Cel} {o : OpD} {e : Ending}
theorem StD.made (h1 : w0.heap.size ≤ db) (h2 : w0.heap.size ≤ mb) (h : DirW w db mb []) (hf : Fr [] w0 w) : StD w0 w db mb [] :=
  ⟨h, fun k hk => by simp [homes, feet] at hk; omega, hf⟩
theorem StD.keep (h : StD w0 w db mb L) (hf : Fr [] w w') : StD w0 w' db mb L := ⟨h.dir.fr0 hf, h.new, h.fr.trans0 hf⟩
theorem StD.change (h : StD w0 w db mb L) (hD : DirW w' db mb L') (hf : Fr (mb :: feet L) w w') (hk : ∀ k ∈ feet L', k ∈ feet L ∨ w.heap.size ≤ k) : StD w0 w' db mb L' := by
  have hs := h.fr.size
  refine ⟨hD, fun k hk' => ?_, h.fr.trans hf fun x hx hl => ?_⟩
  · simp only [homes, List.mem_cons] at hk'
    rcases hk' with rfl | rfl | hk'
    · exact h.new _ (by simp [homes])
    · exact h.new _ (by simp [homes])
    · rcases hk k hk' with h2 | h2
      · exact h.new _ (by simp [homes, h2])
      · omega
  · have := h.new x (by rcases List.mem_cons.1 hx with rfl | hx <;> simp_all [homes])
    omega
theorem StD.does (h : StD w0 w db mb L) (hp : doesPost db mb L o w e w') : ∃ L', e = .returned (.int .i64 (runD (L.map (·.x)) o).2) ∧ L'.map (·.x) = (runD (L.map (·.x)) o).1 ∧ StD w0 w' db mb L' := by
  obtain ⟨L', h1, h2, h3, h4, h5⟩ := hp
  exact ⟨L', h1, h2, h.change h3 h5 h4⟩
theorem StD.block (h : StD w0 w db mb L) {b : Nat} (hb : w.heap.size ≤ b) {c : Cel} (hc : c ∈ L) : b ∉ c.feet := fun hk => by
  have := feet_lt h.dir hc hk
  omega
end
theorem kept_at {S g : Nat} {l : List Bool} {f n s : Nat} (hg : 0 < g) (hl : l.length = gran S g) (hin : f + n ≤ S) (h1 : f ≤ s) (h2 : s < f + n) : isB S g (bSet S g l f n) s = true := by
  have hs : s < S := by omega
  have hk : s / g < l.length := by rw [hl]; exact gran_at hg hs
  have hd := Nat.div_mul_le_self s g
  have hd2 : s < s / g * g + g := by have := (div_le (X := s) (g := g) (k := s / g) hg).1 (Nat.le_refl _); exact this
  have : oneB S g f n (s / g) = true := by
    simp only [oneB, decide_eq_true_eq]
    omega
  unfold isB
  rw [Int.toNat_natCast, bSet_getD hk, this]
  simp
  omega
/-- what was written is there -/
theorem wrE_is {x : Ent} (h : OkE x) {f n : Nat} (hon : (wrE f n x).on = true) (hin : f + n ≤ (wrE f n x).S) {s : Nat} (h1 : f ≤ s) (h2 : s < f + n) : isB (wrE f n x).S (wrE f n x).g (wrE f n x).l s = true := by
  have hx : x.on = true := by
    unfold wrE at hon
    split at hon
    · assumption
    · exact hon
  have hS : (wrE f n x).S = x.S := by
    unfold wrE doS
    rw [if_pos hx]
    simp
    split <;> rfl
  have e : wrE f n x = { x with l := bSet x.S x.g x.l f n } := by
    rw [hS] at hin
    unfold wrE doS
    have : insideB x.S (f : Int) (n : Int) := ⟨by omega, by omega, by omega, by omega⟩
    rw [if_pos hx]
    simp [this]
  rw [hS] at hin
  rw [e]
  exact kept_at h.g.1 h.len hin h1 h2
theorem ok_of_all {E : List Ent} (h : OkD E) {c : Ent} (hc : c ∈ E) : OkE c := h.all c hc
end Go.Proofs.YtiifmakhfpllnaaGreat
