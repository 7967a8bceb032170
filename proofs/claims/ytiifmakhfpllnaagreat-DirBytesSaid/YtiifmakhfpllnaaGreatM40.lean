/-
  ref01: Text, ReadText; ref11.bit; ref04.SameTexts.
-/
import Derived.Test.YtiifmakhfpllnaaGreatM39
import Derived.Test.YtiifmakhfpllnaaGreatM27
import Derived.Test.YtiifmakhfpllnaaGreatM20
import Derived.Test.YtiifmakhfpllnaaGreatM41
import Derived.Test.YtiifmakhfpllnaaGreatM37
import Derived.Test.YtiifmakhfpllnaaGreatBitEr
namespace Go.Proofs.YtiifmakhfpllnaaGreat
open Go.RowKit Go.Maps
attribute [local go_sem] len_str store_str cells_str eql_str neq_str lss_str guard_str

set_option maxRecDepth 100000 in
set_option maxHeartbeats 1600000 in
theorem rText_calls (W : Nat) (hW : W = 1 ∨ W = 2 ∨ W = 4) (s : List UInt8) (hs : s.length < 256 ^ W) (w : World) : Calls Tryz.prog 53 #[strL s, .int .i64 (W : Int)] w fun e w' => e = .returned (.tuple #[strL (numL W s.length ++ s), .bool true]) ∧ Fr [] w w' := by
  have hb : 256 ^ W ≤ 4294967296 := by rcases hW with rfl | rfl | rfl <;> decide
  have hl := numL_length W s.length
  have hne : decide (numL W s.length = []) = false := by
    refine decide_eq_false fun h => ?_
    rw [h] at hl
    simp at hl
    omega
  have hadd := fun X => add_str (numL W s.length) s X (by omega)
  have hstr0 : Value.string ⟨#[]⟩ = strL [] := rfl
  have kN := rNum_calls W s.length hW hs
  generalize numL W s.length = q at *
  obtain ⟨z0, hz0⟩ : ∃ z, strL [] = z := ⟨_, rfl⟩
  obtain ⟨qs, hqs⟩ : ∃ qs, strL (q ++ s) = Value.string qs := ⟨_, rfl⟩
  rw [hqs] at hadd ⊢
  clear hqs hl hW hz0
  go_enter Tryz.func53, Tryz.ntmps53
  go_wp2_with fail
  refine (kN _).mono ?_
  rintro e w1 ⟨rfl, hf⟩
  rw [hstr0]
  go_wp2
  go_ret2
  exact ⟨rfl, hf⟩
set_option maxRecDepth 100000 in
set_option maxHeartbeats 1600000 in
theorem ReadText_calls (W : Nat) (hW : W = 1 ∨ W = 2 ∨ W = 4) (l : List UInt8) (e : Int) (w : World) :
    Calls Tryz.prog 29 #[.agg #[strL l, .int .i64 e], .int .i64 (W : Int)] w fun e' w' => e' = .returned (.tuple #[.agg #[strL (rdText l e W).1, .int .i64 (rdText l e W).2.1], strL (rdText l e W).2.2]) ∧ Fr [] w w' := by
  have kN := fun X => ReadNum_calls W hW l e X
  unfold rdText
  have hn : (rdNum l e W).2.2 < 4294967296 := by
    unfold rdNum
    split
    · simp
    · split
      · simp
      · have := valL_lt (l.take W)
        have h1 : (l.take W).length ≤ 4 := by rw [List.length_take]; omega
        exact Nat.lt_of_lt_of_le this (by have := Nat.pow_le_pow_right (n := 256) (by omega) h1; exact this)
  obtain ⟨l1, e1, n, hq⟩ : ∃ a b c, rdNum l e W = (a, b, c) := ⟨_, _, _, rfl⟩
  rw [hq] at kN hn ⊢
  simp only at kN hn ⊢
  clear hq hW
  obtain ⟨ls0, hls0⟩ : ∃ ls, strL l = Value.string ls := ⟨_, rfl⟩
  rw [hls0] at kN ⊢
  clear hls0
  have hnil : strL [] = Value.string ⟨#[]⟩ := rfl
  by_cases he : e1 = 0
  · subst he
    by_cases hlt : l1.length < n
    · have er : rdTake l1 0 (n : Int) false = (l1, 10, []) := by simp [rdTake, hlt]
      have hlt' : (l1.length : Int) < (n : Int) := by omega
      have hln := fun ty X => len_str l1 ty X
      rw [er]
      simp only
      rw [hnil]
      obtain ⟨ls, hls⟩ : ∃ ls, strL l1 = Value.string ls := ⟨_, rfl⟩
      rw [hls] at kN hln ⊢
      clear er hlt hls hnil
      go_enter Tryz.func29, Tryz.ntmps29
      go_wp2_with fail
      refine (kN _).mono ?_
      rintro e' w1 ⟨rfl, hf⟩
      have B2 : Blk w1 w.heap.size [.string ls0, .int .i64 e] 69 := ((Blk.new w [_, _] _).alloc _).fr0 hf
      have B4 : Blk w1 (w.heap.size + 1) [.string ⟨#[]⟩, .int .i64 0] 69 := (Blk.new' (by simp) [_, _] _).fr0 hf
      have hF : Fr [] w w1 := (((Fr.refl [] w).alloc _).alloc _).trans0 hf
      have c2 := B2.cell
      have f2 := B2.frozen
      have l2 := B2.lt
      have c4 := B4.cell
      have f4 := B4.frozen
      have l4 := B4.lt
      clear hf kN
      have A2 := (B2.setCell 0 (.string ls)).setCell 1 (.int .i64 0)
      have A4 := (B4.other (p := ⟨w.heap.size, 0, none⟩) (by simp) (.string ls)).other (p := ⟨w.heap.size, 1, none⟩) (by simp) (.int .i64 0)
      have a2 := A2.cell
      have a2f := A2.frozen
      have A2b := A2.setCell 1 (.int .i64 10)
      have A4b := A4.other (p := ⟨w.heap.size, 1, none⟩) (by simp) (.int .i64 10)
      have b2 := A2b.cell
      have b2f := A2b.frozen
      have b4 := A4b.cell
      have b4f := A4b.frozen
      have d4 := ((A4b.setCell 0 (.string ls)).setCell 1 (.int .i64 10)).cell
      go_wp2
      exact bodyPost_ret (v := .tuple #[.agg #[.string ls, .int .i64 10], .string ⟨#[]⟩]) (by simp [results, Tryz.results29, go_sem, d4]) rfl ⟨rfl, by repeat (first | exact hF | refine Fr.setCell ?_ (.inr (by simp)) _)⟩
    · have er : rdTake l1 0 (n : Int) false = (l1.drop n, 0, l1.take n) := by
        have : ¬ (l1.length : Int) < (n : Int) := by omega
        simp [rdTake, this]
      have hlt' : ¬ (l1.length : Int) < (n : Int) := by omega
      have hln := fun ty X => len_str l1 ty X
      have hto := fun X => to_str (l := l1) (n := n) (by omega) X
      have hfrom := fun X => from_str (l := l1) (n := n) (by omega) X
      rw [er]
      simp only
      obtain ⟨ls, hls⟩ : ∃ ls, strL l1 = Value.string ls := ⟨_, rfl⟩
      rw [hls] at kN hln hto hfrom
      obtain ⟨ld, hld⟩ : ∃ ls, strL (l1.drop n) = Value.string ls := ⟨_, rfl⟩
      obtain ⟨lt, hlt2⟩ : ∃ ls, strL (l1.take n) = Value.string ls := ⟨_, rfl⟩
      rw [hld] at hfrom ⊢
      rw [hlt2] at hto ⊢
      clear er hlt hls hnil hld hlt2
      go_enter Tryz.func29, Tryz.ntmps29
      go_wp2_with fail
      refine (kN _).mono ?_
      rintro e' w1 ⟨rfl, hf⟩
      have B2 : Blk w1 w.heap.size [.string ls0, .int .i64 e] 69 := ((Blk.new w [_, _] _).alloc _).fr0 hf
      have B4 : Blk w1 (w.heap.size + 1) [.string ⟨#[]⟩, .int .i64 0] 69 := (Blk.new' (by simp) [_, _] _).fr0 hf
      have hF : Fr [] w w1 := (((Fr.refl [] w).alloc _).alloc _).trans0 hf
      have c2 := B2.cell
      have f2 := B2.frozen
      have l2 := B2.lt
      have c4 := B4.cell
      have f4 := B4.frozen
      have l4 := B4.lt
      clear hf kN
      have A2 := (B2.setCell 0 (.string ls)).setCell 1 (.int .i64 0)
      have A4 := (B4.other (p := ⟨w.heap.size, 0, none⟩) (by simp) (.string ls)).other (p := ⟨w.heap.size, 1, none⟩) (by simp) (.int .i64 0)
      have a2 := A2.cell
      have a2f := A2.frozen
      have A2b := A2.setCell 0 (.string ld)
      have A4b := A4.other (p := ⟨w.heap.size, 0, none⟩) (by simp) (.string ld)
      have b2 := A2b.cell
      have b2f := A2b.frozen
      have b4 := A4b.cell
      have b4f := A4b.frozen
      have d4 := ((A4b.setCell 0 (.string ld)).setCell 1 (.int .i64 0)).cell
      go_wp2
      exact bodyPost_ret (v := .tuple #[.agg #[.string ld, .int .i64 0], .string lt]) (by simp [results, Tryz.results29, go_sem, d4]) rfl ⟨rfl, by repeat (first | exact hF | refine Fr.setCell ?_ (.inr (by simp)) _)⟩
  · have er : rdTake l1 e1 (n : Int) false = (l1, e1, []) := by simp [rdTake, he]
    have he' : (e1 != 0) = true := by simpa using he
    rw [er]
    simp only
    rw [hnil]
    obtain ⟨ls, hls⟩ : ∃ ls, strL l1 = Value.string ls := ⟨_, rfl⟩
    rw [hls] at kN ⊢
    clear er he hls hnil
    go_enter Tryz.func29, Tryz.ntmps29
    go_wp2_with fail
    refine (kN _).mono ?_
    rintro e' w1 ⟨rfl, hf⟩
    have B2 : Blk w1 w.heap.size [.string ls0, .int .i64 e] 69 := ((Blk.new w [_, _] _).alloc _).fr0 hf
    have B4 : Blk w1 (w.heap.size + 1) [.string ⟨#[]⟩, .int .i64 0] 69 := (Blk.new' (by simp) [_, _] _).fr0 hf
    have hF : Fr [] w w1 := (((Fr.refl [] w).alloc _).alloc _).trans0 hf
    have c2 := B2.cell
    have f2 := B2.frozen
    have l2 := B2.lt
    have c4 := B4.cell
    have f4 := B4.frozen
    have l4 := B4.lt
    clear hf kN
    have A2 := (B2.setCell 0 (.string ls)).setCell 1 (.int .i64 e1)
    have A4 := (B4.other (p := ⟨w.heap.size, 0, none⟩) (by simp) (.string ls)).other (p := ⟨w.heap.size, 1, none⟩) (by simp) (.int .i64 e1)
    have a2 := A2.cell
    have a2f := A2.frozen
    have b4 := A4.cell
    have b4f := A4.frozen
    have d4 := ((A4.setCell 0 (.string ls)).setCell 1 (.int .i64 e1)).cell
    go_wp2
    exact bodyPost_ret (v := .tuple #[.agg #[.string ls, .int .i64 e1], .string ⟨#[]⟩]) (by simp [results, Tryz.results29, go_sem, d4]) rfl ⟨rfl, by repeat (first | exact hF | refine Fr.setCell ?_ (.inr (by simp)) _)⟩
set_option maxRecDepth 100000 in
set_option maxHeartbeats 800000 in
theorem bit_calls (b : Bool) (w : World) : Calls Tryz.prog 55 #[.bool b] w fun e w' => e = .returned (strL (numL 1 (bn b))) ∧ w = w' := by
  have h1 : strL (numL 1 (bn true)) = .string ⟨#[1]⟩ := rfl
  have h0 : strL (numL 1 (bn false)) = .string ⟨#[0]⟩ := rfl
  cases b with
  | true =>
    rw [h1]
    go_enter Tryz.func55, Tryz.ntmps55
    go_wp2
    go_ret
    exact ⟨rfl, rfl⟩
  | false =>
    rw [h0]
    go_enter Tryz.func55, Tryz.ntmps55
    go_wp2
    go_ret
    exact ⟨rfl, rfl⟩
set_option maxRecDepth 100000 in
set_option maxHeartbeats 1600000 in
theorem SameTexts_calls (u v : Value) (l : List (List UInt8)) (w : World) (hu : SlT w u l) (hv : SlT w v l) (hl : l.length ≤ 100) : Calls Tryz.prog 14 #[u, v] w fun e w' => e = .returned (.bool true) ∧ Fr [] w w' := by
  obtain ⟨a, c, rfl, hlc, hcm, _⟩ := SlF.open hu
  obtain ⟨a', c', rfl, hlc', hcm', _⟩ := SlF.open hv
  go_enter Tryz.func14, Tryz.ntmps14
  go_wp2
  go_loopw [5] (fun i wr => ∃ k : Nat, k ≤ l.length ∧ i = .int .i64 k ∧ Fr [] w wr) (fun i _ => l.length - (intOf i).toNat)
  case atStart => exact ⟨0, Nat.zero_le _, rfl, Fr.refl _ _⟩
  case round =>
    obtain ⟨k, hk, rfl, hF⟩ := hrel
    by_cases hlt : k < l.length
    · obtain ⟨b, off, rfl, hb, d⟩ := SlT.at (SlF.fr0 hu hF) hlt
      obtain ⟨b', off', rfl, hb', d'⟩ := SlT.at (SlF.fr0 hv hF) hlt
      have hd : decide (l.getD k [] = l.getD k []) = true := decide_eq_true rfl
      generalize l.getD k [] = s at *
      go_wp2_with fail
      go_quiet (fail)
      have hF2 := hF.drewN nq
      generalize wr.drewN nq = wq at *
      go_wp2
      go_roundw
      case rel => exact ⟨k + 1, by omega, by go_num, hF2⟩
      case measure => simp [intOf]; omega
    · go_wp2
      go_ret
      exact ⟨rfl, hF⟩
end Go.Proofs.YtiifmakhfpllnaaGreat

namespace Go.Proofs.YtiifmakhfpllnaaGreat
open Go.RowKit Go.Maps
attribute [local go_sem] cells_str store_str eql_str neq_str guard_str
variable {H : List Nat}

set_option maxRecDepth 100000 in
set_option maxHeartbeats 3200000 in
theorem rEncodeD_calls (v : Value) (P : List (Ent × Value)) (clean : Bool) (w : World) (hv : RefE H w v P) (hok : OkD (P.map (·.1))) :
    Calls Tryz.prog 13 #[v, .bool clean] w fun e w' => e = .returned (strL (encD (P.map (·.1)) clean)) ∧ Fr [] w w' := by
  obtain ⟨a, cap, rfl, hlc, hcm, _⟩ := hv.sl.open
  have h8 : P.length ≤ 8 := by have := hok.few; simpa using this
  have kN := rNum_calls 1 P.length (by omega) (show P.length < 256 ^ 1 by omega)
  have HE : Hid (encD (P.map (·.1)) clean = numL 1 P.length ++ (P.map (·.1)).flatMap (encE clean)) := hidIt (by unfold encD; rw [List.length_map])
  have hokP : ∀ p ∈ P, OkE p.1 := fun p hp => hok.all _ (List.mem_map.2 ⟨p, hp, rfl⟩)
  have Hlen : ∀ k, Hid ((numL 1 P.length ++ ((P.take k).map (·.1)).flatMap (encE clean)).length ≤ 100000) := fun k => hidIt (by
    have h1 := encD_flat_len (E := (P.take k).map (·.1)) (fun x hx => by obtain ⟨p, hp, rfl⟩ := List.mem_map.1 hx; exact hokP p (List.mem_of_mem_take hp)) clean
    rw [List.length_map] at h1
    have h2 : (P.take k).length ≤ P.length := by rw [List.length_take]; omega
    rw [List.length_append, numL_length]
    omega)
  clear hok
  go_enter Tryz.func13, Tryz.ntmps13
  go_wp2_with fail
  refine (kN _).mono ?_
  rintro e w1 ⟨rfl, hf1⟩
  go_wp2_with fail
  go_loopw [5, 6] (fun u i wr => ∃ k : Nat, k ≤ P.length ∧ i = .int .i64 k ∧ u = strL (numL 1 P.length ++ ((P.take k).map (·.1)).flatMap (encE clean)) ∧ Fr [] w wr) (fun _ i _ => P.length - (intOf i).toNat)
  case atStart => exact ⟨0, Nat.zero_le _, rfl, by simp, hf1⟩
  case round =>
    obtain ⟨k, hk, rfl, rfl, hF⟩ := hrel
    by_cases hlt : k < P.length
    · have hvr := hv.fr0 hF
      obtain ⟨b, off, rfl, hb, d0, d1, d2, d3, d4, d5⟩ := SlE.at hvr.sl hlt
      have hg : P.getD k zP = P[k] := by rw [List.getD_eq_getElem?_getD, List.getElem?_eq_getElem hlt]; rfl
      obtain ⟨qa, qn, qc, hqe0⟩ := enT (H := H) wr (P[k])
      have hrow := hvr.rows _ (List.getElem_mem hlt)
      have hqe := hqe0 hrow
      rw [hg] at d0 d1 d2 d3 d4 d5
      rw [hqe] at d5
      unfold rowP at hrow
      rw [hqe] at hrow
      have hokx := hokP _ (List.getElem_mem hlt)
      have hl1 := (Hlen k).out
      have Hst : Hid (numL 1 P.length ++ ((P.take (k + 1)).map (·.1)).flatMap (encE clean) = (numL 1 P.length ++ ((P.take k).map (·.1)).flatMap (encE clean)) ++ encE clean (P[k]).1) := hidIt (by
        rw [List.take_succ_eq_append_getElem hlt, List.map_append, List.flatMap_append, List.append_assoc]; simp)
      clear hqe hqe0 hg Hlen hokP hvr kN
      generalize (P[k]).1 = x at *
      generalize numL 1 P.length ++ ((P.take k).map (·.1)).flatMap (encE clean) = out at *
      have hnl := okName_len hokx.name
      have hsh := hokx.short
      have hgl : x.l.length ≤ 4096 := by rw [hokx.len]; exact gran_le hokx.size hokx.g.1
      have hg64 := hokx.g.2
      have kT1 := rText_calls 1 (by omega) x.name (show x.name.length < 256 ^ 1 by omega)
      have kE := fun W (h : Fr [] wr W) => rEncodeB_calls x.S x.g (.slice qa qn qc) x.l W (SlF.fr0 hrow.1 h) hokx.size hg64 hgl
      have kT2 := rText_calls 2 (by omega) (encB x.S x.g x.l) (show (encB x.S x.g x.l).length < 256 ^ 2 by have : 256 ^ 2 = 65536 := rfl; omega)
      unfold rb at kE
      have HencE : Hid ((((out ++ (numL 1 x.name.length ++ x.name)) ++ numL 1 (bn x.on)) ++ numL 1 (bn (x.use && clean))) ++ (numL 2 (encB x.S x.g x.l).length ++ encB x.S x.g x.l) = out ++ encE clean x) := hidIt (by
        unfold encE
        simp only [List.append_assoc])
      have hnm1 : (numL 1 x.name.length ++ x.name).length ≤ 20 := by rw [List.length_append, numL_length]; omega
      have hnm2 : (numL 2 (encB x.S x.g x.l).length ++ encB x.S x.g x.l).length ≤ 1000 := by rw [List.length_append, numL_length]; omega
      have hb1 : ∀ z : Bool, (numL 1 (bn z)).length = 1 := fun z => numL_length _ _
      generalize numL 1 x.name.length ++ x.name = nm at *
      generalize numL 2 (encB x.S x.g x.l).length ++ encB x.S x.g x.l = xt at *
      have ha1 := fun X => add_str out nm X (by omega)
      have ha2 := fun X => add_str (out ++ nm) (numL 1 (bn x.on)) X (by rw [List.length_append, hb1]; omega)
      have ha3 := fun X => add_str ((out ++ nm) ++ numL 1 (bn x.on)) (numL 1 (bn (x.use && clean))) X (by rw [List.length_append, List.length_append, hb1, hb1]; omega)
      have ha4 := fun X => add_str (((out ++ nm) ++ numL 1 (bn x.on)) ++ numL 1 (bn (x.use && clean))) xt X (by rw [List.length_append, List.length_append, List.length_append, hb1, hb1]; omega)
      simp only [List.append_assoc] at ha2 ha3 ha4 HencE
      have hlq : (k : Int) < P.length := by omega
      clear hb1 hnm1 hnm2 hl1 hsh hokx
      go_wp2_with fail
      refine (kT1 _).mono ?_
      rintro e w2 ⟨rfl, hf2⟩
      have r2 := hf2.rules0.1
      have e3 := (r2 _ _ hb).trans d3
      have e4 := (r2 _ _ hb).trans d4
      have e5 := (r2 _ _ hb).trans d5
      go_wp2_with fail
      refine (kE _ hf2).mono ?_
      rintro e w3 ⟨rfl, hf3⟩
      go_wp2_with fail
      refine (kT2 _).mono ?_
      rintro e w4 ⟨rfl, hf4⟩
      have hfx := (hf2.trans0 hf3).trans0 hf4
      have hFd : Fr [] w4 w4.drew := (Fr.refl [] w4).drew
      have hF4 := hF.trans0 hfx
      have kd : ∀ X, Fr [] w4.drew X → X.cell? ⟨b, off + k * 6 + 1, none⟩ = some (.bool x.on) ∧ X.cell? ⟨b, off + k * 6 + 2, none⟩ = some (.bool x.use) := fun X hX => by
        have r := (hfx.trans0 (hFd.trans0 hX)).rules0.1
        exact ⟨(r _ _ hb).trans d1, (r _ _ hb).trans d2⟩
      clear e3 e4 e5 r2 kT1 kE kT2 d0 d1 d2 d3 d4 d5 hf2 hf3 hf4 hfx
      go_wp2_with fail
      cases hu : x.use with
      | true =>
        rw [hu] at ha3 ha4 kd HencE
        rw [Bool.true_and] at ha3 ha4 HencE
        refine wp_region_G (Fr [] w4.drew) [(true, 0), (true, 1), (true, 2), (true, 3), (true, 4), (true, 5), (true, 6), (true, 7), (true, 10), (true, 11), (true, 12), (true, 13), (true, 14), (true, 20), (false, 8), (true, 9), (true, 15), (true, 16), (true, 17), (false, 18), (true, 19), (true, 21), (true, 22)] (by as_aux_lemma => kernel_rfl) (by as_aux_lemma => kernel_rfl) (Fr.refl _ _) ?_
        simp only [inOrder, List.map_cons, List.map_nil, List.getD_cons_zero, List.getD_cons_succ]
        iterate 7
          refine wpG_pure fun K hK => ?_
          go_simp
          refine hK _ ?_
          clear hK K
        refine wpG_val (.bool x.on) (by first | rfl | go_simp) (fun X hX => by have cc := kd X hX; go_simp) ?_
        simp only [Act.put, List.setIfInBounds_toArray, List.set_cons_zero, List.set_cons_succ]
        iterate 4
          refine wpG_pure fun K hK => ?_
          go_simp
          refine hK _ ?_
          clear hK K
        refine wpG_val (.bool true) (by first | rfl | go_simp) (fun X hX => by have cc := kd X hX; go_simp) ?_
        simp only [Act.put, List.setIfInBounds_toArray, List.set_cons_zero, List.set_cons_succ]
        iterate 1
          refine wpG_pure fun K hK => ?_
          go_simp
          refine hK _ ?_
          clear hK K
        refine wpG_one fun K hK => ?_
        go_simp
        refine (bit_calls x.on _).mono ?_
        rintro e w5 ⟨rfl, rfl⟩
        refine hK _ _ (Fr.refl _ _) ?_
        clear hK K
        iterate 4
          refine wpG_pure fun K hK => ?_
          go_simp
          refine hK _ ?_
          clear hK K
        refine wpG_one fun K hK => ?_
        go_simp
        refine (bit_calls clean _).mono ?_
        rintro e w5 ⟨rfl, rfl⟩
        refine hK _ _ (Fr.refl _ _) ?_
        clear hK K
        iterate 3
          refine wpG_pure fun K hK => ?_
          go_simp
          refine hK _ ?_
          clear hK K
        refine wpG_end ?_
        go_wp2
        go_roundw
        case rel => exact ⟨k + 1, by omega, by go_num, by rw [Hst.out, ← HencE.out], hF4.trans0 hFd⟩
        case measure => simp [intOf]; omega
      | false =>
        rw [hu] at ha3 ha4 kd HencE
        rw [Bool.false_and] at ha3 ha4 HencE
        refine wp_region_G (Fr [] w4.drew) [(true, 0), (true, 1), (true, 2), (true, 3), (true, 4), (true, 5), (true, 6), (true, 7), (true, 10), (true, 11), (true, 12), (true, 13), (true, 14), (true, 20), (false, 8), (true, 9), (true, 15), (true, 16), (true, 17), (false, 18), (true, 19), (true, 21), (true, 22)] (by as_aux_lemma => kernel_rfl) (by as_aux_lemma => kernel_rfl) (Fr.refl _ _) ?_
        simp only [inOrder, List.map_cons, List.map_nil, List.getD_cons_zero, List.getD_cons_succ]
        iterate 7
          refine wpG_pure fun K hK => ?_
          go_simp
          refine hK _ ?_
          clear hK K
        refine wpG_val (.bool x.on) (by first | rfl | go_simp) (fun X hX => by have cc := kd X hX; go_simp) ?_
        simp only [Act.put, List.setIfInBounds_toArray, List.set_cons_zero, List.set_cons_succ]
        iterate 4
          refine wpG_pure fun K hK => ?_
          go_simp
          refine hK _ ?_
          clear hK K
        refine wpG_val (.bool false) (by first | rfl | go_simp) (fun X hX => by have cc := kd X hX; go_simp) ?_
        simp only [Act.put, List.setIfInBounds_toArray, List.set_cons_zero, List.set_cons_succ]
        iterate 1
          refine wpG_pure fun K hK => ?_
          go_simp
          refine hK _ ?_
          clear hK K
        refine wpG_one fun K hK => ?_
        go_simp
        refine (bit_calls x.on _).mono ?_
        rintro e w5 ⟨rfl, rfl⟩
        refine hK _ _ (Fr.refl _ _) ?_
        clear hK K
        iterate 4
          refine wpG_pure fun K hK => ?_
          go_simp
          refine hK _ ?_
          clear hK K
        refine wpG_one fun K hK => ?_
        go_simp
        refine (bit_calls false _).mono ?_
        rintro e w5 ⟨rfl, rfl⟩
        refine hK _ _ (Fr.refl _ _) ?_
        clear hK K
        iterate 3
          refine wpG_pure fun K hK => ?_
          go_simp
          refine hK _ ?_
          clear hK K
        refine wpG_end ?_
        go_wp2
        go_roundw
        case rel => exact ⟨k + 1, by omega, by go_num, by rw [Hst.out, ← HencE.out], hF4.trans0 hFd⟩
        case measure => simp [intOf]; omega
    · have hke : k = P.length := by omega
      subst hke
      have hE := HE.out
      rw [List.take_length]
      rw [← hE]
      have hql : ¬ (P.length : Int) < P.length := by omega
      go_wp2
      go_ret
      exact ⟨rfl, hF⟩
end Go.Proofs.YtiifmakhfpllnaaGreat
