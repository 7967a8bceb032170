/-
  ref11: Decode.
-/
import Derived.Test.YtiifmakhfpllnaaGreatM40
import Derived.Test.YtiifmakhfpllnaaGreatBitRd
namespace Go.Proofs.YtiifmakhfpllnaaGreat
open Go.RowKit Go.Maps
attribute [local go_sem] cells_str store_str eql_str neq_str guard_str

def rDecDPost (w : World) (bs : List UInt8) (e : Ending) (w' : World) : Prop :=
  (∃ v P, OkD (P.map fun p : Ent × Value => p.1) ∧ encD (P.map (·.1)) true = bs ∧ e = .returned (.tuple #[v, .bool true]) ∧ RefE [] w' v P ∧ Fr [] w w') ∨
    ((∀ E, OkD E → encD E true ≠ bs) ∧ e = .returned (.tuple #[.slice none 0 0, .bool false]) ∧ Fr [] w w')
theorem idxI_neg {E : List Ent} {s : List UInt8} : (0 ≤ idxI (idxE E s)) ↔ findE E s ≠ none := by
  cases h : idxE E s with
  | none => simp [idxI, idxE_none.1 h]
  | some k =>
    have : findE E s ≠ none := fun h2 => by rw [idxE_none.2 h2] at h; cases h
    simp [idxI, this]
theorem insE_ok {E : List Ent} {x : Ent} (h : OkD E) (hx : OkE x) (hn : findE E x.name = none) (h8 : E.length < 8) : OkD (insE x E) := by
  have hp : (insE x E).Perm (x :: E) := by
    clear h hn h8
    induction E with
    | nil => exact List.Perm.refl _
    | cons d l ih =>
      simp only [insE]
      split
      · exact List.Perm.refl _
      · exact (ih.cons d).trans (List.Perm.swap ..)
  refine ⟨fun y hy => ?_, by rw [hp.length_eq]; simp; omega, ?_⟩
  · rcases List.mem_cons.1 (hp.mem_iff.1 hy) with rfl | hy
    · exact hx
    · exact h.all y hy
  · have hr := h.rising
    have hne : ∀ d ∈ E, d.name ≠ x.name := fun d hd he => by
      unfold findE at hn
      rw [List.find?_eq_none] at hn
      have := hn d hd
      simp [he] at this
    clear h hn h8 hp
    induction E with
    | nil => exact List.pairwise_singleton _ _
    | cons d l ih =>
      have h' := List.pairwise_cons.1 hr
      simp only [insE]
      split
      · rename_i hlt
        refine List.pairwise_cons.2 ⟨fun y hy => ?_, hr⟩
        rcases List.mem_cons.1 hy with rfl | hy
        · exact hlt
        · exact List.lt_trans hlt (h'.1 y hy)
      · rename_i hlt
        have hq : (insE x l).Perm (x :: l) := by
          clear ih hr h' hne hlt
          induction l with
          | nil => exact List.Perm.refl _
          | cons d l ih =>
            simp only [insE]
            split
            · exact List.Perm.refl _
            · exact (ih.cons d).trans (List.Perm.swap ..)
        refine List.pairwise_cons.2 ⟨fun y hy => ?_, ih h'.2 fun y hy => hne y (List.mem_cons_of_mem _ hy)⟩
        rcases List.mem_cons.1 (hq.mem_iff.1 hy) with rfl | hy
        · exact not_lt_lt hlt (hne d List.mem_cons_self).symm
        · exact h'.1 y hy
set_option maxRecDepth 100000 in
set_option maxHeartbeats 3200000 in
theorem rDecodeD_calls (bs : List UInt8) (w : World) (hl : bs.length ≤ 100000) : Calls Tryz.prog 8 #[strL bs] w (rDecDPost w bs) := by
  have kN := fun X => ReadNum_calls 1 (by omega) bs 0 X
  obtain ⟨l0, e0, n, hq0⟩ : ∃ l0 e0 n, rdNum bs 0 1 = (l0, e0, n) := ⟨_, _, _, rfl⟩
  have hn : n < 256 := by
    have h2 : (rdNum bs 0 1).2.2 < 256 := by
      unfold rdNum
      split
      · simp
      · split
        · simp
        · have := valL_lt (bs.take 1)
          refine Nat.lt_of_lt_of_le this ?_
          have : (bs.take 1).length ≤ 1 := by simp; omega
          exact Nat.pow_le_pow_right (n := 256) (by omega) this
    rw [hq0] at h2
    exact h2
  have hl0 : l0.length ≤ 100000 := by
    have := rdNum_short bs 0 1
    rw [hq0] at this
    simp only at this
    omega
  rw [hq0] at kN
  have hrd := Reads.start hq0
  clear hq0
  simp only at kN
  obtain ⟨q0, hq0⟩ : ∃ q, strL l0 = Value.string q := ⟨_, rfl⟩
  rw [hq0] at kN
  have HQ0 := hidIt hq0
  clear hq0
  go_enter Tryz.func8, Tryz.ntmps8
  go_wp2_with (refine wpList_buildR rfl _ rfl _ rfl ?_)
  refine (kN _).mono ?_
  rintro e w1 ⟨rfl, hf1⟩
  have BR := Blk.new w1 [.string q0, .int .i64 e0] 69
  have hfa := (Fr.refl [] w1).alloc (.cells #[.string q0, .int .i64 e0] 69)
  have hF1 := hf1.trans0 hfa
  have hrw := hf1.size
  replace BR : Blk (w1.alloc (.cells #[.string q0, .int .i64 e0] 69)) w1.heap.size [strL l0, .int .i64 e0] 69 := by rw [HQ0.out]; exact BR
  have hR0 : RefE [w1.heap.size] (w1.alloc (.cells #[.string q0, .int .i64 e0] 69)) (.slice none 0 0) [] := ⟨Sl.nil _, okH.mk (fun n c h => (by cases h; rfl)) (fun k hk => (by cases hk)), fun p hp => (by cases hp), fun k hk => (by have := List.mem_singleton.1 hk; simp; omega)⟩
  have hok0 : OkD (([] : List (Ent × Value)).map (·.1)) := ⟨by simp, by simp, by simp⟩
  clear kN hf1 hfa HQ0
  go_wp2_with fail
  go_loopw [6, 7] (fun u i wr => ∃ (k : Nat) (P : List (Ent × Value)) (l : List UInt8) (e : Int), k ≤ n ∧ i = .int .i64 k ∧ RefE [w1.heap.size] wr u P ∧ OkD (P.map (·.1)) ∧ Blk wr w1.heap.size [strL l, .int .i64 e] 69 ∧ l.length ≤ 100000 ∧ Reads bs n k (P.map (·.1)) l e ∧ Fr [] w wr) (fun _ i _ => n - (intOf i).toNat)
  case atStart => exact ⟨0, [], l0, e0, Nat.zero_le _, rfl, hR0, hok0, BR, hl0, hrd, hF1⟩
  case round =>
    clear hR0 hok0 BR hrd hF1
    obtain ⟨k, P, l, e, hk, rfl, hR, hok, BR, hll, hrd, hF⟩ := hrel
    obtain ⟨va, vc, rfl, hvl, _⟩ := hR.sl.open
    by_cases hlt : k < n
    · obtain ⟨l1, e1, s, hq1⟩ : ∃ a b c, rdText l e 1 = (a, b, c) := ⟨_, _, _, rfl⟩
      obtain ⟨l2, e2, a, hq2⟩ : ∃ x b c, rdNum l1 e1 1 = (x, b, c) := ⟨_, _, _, rfl⟩
      obtain ⟨l3, e3, b, hq3⟩ : ∃ a b c, rdNum l2 e2 1 = (a, b, c) := ⟨_, _, _, rfl⟩
      obtain ⟨l4, e4, y, hq4⟩ : ∃ a b c, rdText l3 e3 2 = (a, b, c) := ⟨_, _, _, rfl⟩
      have k1 := fun X => ReadText_calls 1 (by omega) l e X
      have k2 := fun X => ReadNum_calls 1 (by omega) l1 e1 X
      have k3 := fun X => ReadNum_calls 1 (by omega) l2 e2 X
      have k4 := fun X => ReadText_calls 2 (by omega) l3 e3 X
      rw [hq1] at k1
      rw [hq2] at k2
      rw [hq3] at k3
      rw [hq4] at k4
      simp only at k1 k2 k3 k4
      have hs1 := rdText_short l e 1
      have hs2 := rdNum_short l1 e1 1
      have hs3 := rdNum_short l2 e2 1
      have hs4 := rdText_short l3 e3 2
      rw [hq1] at hs1
      rw [hq2] at hs2
      rw [hq3] at hs3
      rw [hq4] at hs4
      simp only at hs1 hs2 hs3 hs4
      have Hno1 : Hid ((∀ S g m, goodB S g m → encB S g m ≠ y) → ∀ E, OkD E → encD E true ≠ bs) := hidIt (hrd.noBits hlt hq1 hq2 hq3 hq4)
      have Hno2 : Hid (okName s = false ∨ findE (P.map (·.1)) s ≠ none ∨ 8 ≤ (P.map (·.1)).length → ∀ E, OkD E → encD E true ≠ bs) := hidIt (hrd.noName hlt hq1 hq2 hq3 hq4)
      have Hst : Hid (∀ S g m, goodB S g m → encB S g m = y → Reads bs n (k + 1) (insE (rdE s a b S g m) (P.map (·.1))) l4 e4) := hidIt (fun S g m h1 h2 => hrd.step hlt hq1 hq2 hq3 hq4 h1 h2)
      have hsl : s.length ≤ maxLen := by unfold maxLen; omega
      have hl4 : l4.length ≤ 100000 := by omega
      have kR := fun X => rNameR_calls s X hsl
      have kF := fun X h => rFind_calls (.slice va P.length vc) P s X h (by have := hok.few; rw [List.length_map] at this; omega)
      have kD := fun X => rbDec_calls y X
      clear hq1 hq2 hq3 hq4 hrd hs1 hs2 hs3 hs4
      obtain ⟨p0, hp0⟩ : ∃ q, strL l = Value.string q := ⟨_, rfl⟩
      obtain ⟨p1, hp1⟩ : ∃ q, strL l1 = Value.string q := ⟨_, rfl⟩
      obtain ⟨p2, hp2⟩ : ∃ q, strL l2 = Value.string q := ⟨_, rfl⟩
      obtain ⟨p3, hp3⟩ : ∃ q, strL l3 = Value.string q := ⟨_, rfl⟩
      obtain ⟨p4, hp4⟩ : ∃ q, strL l4 = Value.string q := ⟨_, rfl⟩
      obtain ⟨ps, hps⟩ : ∃ q, strL s = Value.string q := ⟨_, rfl⟩
      obtain ⟨py, hpy⟩ : ∃ q, strL y = Value.string q := ⟨_, rfl⟩
      rw [hp0, hp1, hps] at k1
      rw [hp1, hp2] at k2
      rw [hp2, hp3] at k3
      rw [hp3, hp4, hpy] at k4
      rw [hps] at kR
      rw [hps] at kF
      rw [hpy] at kD
      rw [hp0] at BR
      replace hps := hidIt hps
      replace hp4 := hidIt hp4
      clear hp0 hp1 hp2 hp3 hpy
      have HrdE : Hid (∀ S g m, (⟨s, ((a : Int) == 1), ((b : Int) == 1), S, g, m⟩ : Ent) = rdE s a b S g m) := hidIt (fun _ _ _ => rfl)
      generalize hpa : ((a : Int) == 1) = pa at *
      generalize hpb : ((b : Int) == 1) = pb at *
      have BE := Blk.new wr [.string ⟨#[]⟩, .bool false, .bool false, .int .i64 0, .int .i64 0, .slice none 0 0] 76
      have hfe := (Fr.refl [] wr).alloc (.cells #[.string ⟨#[]⟩, .bool false, .bool false, .int .i64 0, .int .i64 0, .slice none 0 0] 76)
      have BR1 := BR.fr0 hfe
      have hG1 : Fr [w1.heap.size, wr.heap.size] wr (wr.alloc (.cells #[.string ⟨#[]⟩, .bool false, .bool false, .int .i64 0, .int .i64 0, .slice none 0 0] 76)) := hfe.weak
      have hne : ¬ w1.heap.size = wr.heap.size := by have := BR.lt; omega
      have hne2 : ¬ wr.heap.size = w1.heap.size := fun h => hne h.symm
      have hRBm : w1.heap.size ∈ [w1.heap.size, wr.heap.size] := by simp
      have hBEm : wr.heap.size ∈ [w1.heap.size, wr.heap.size] := by simp
      have c1 := BR1.cell
      clear BR hfe
      go_wp2_with fail
      refine (k1 _).mono ?_
      rintro e w2 ⟨rfl, hf2⟩
      have BR2 := BR1.fr0 hf2
      have BE2 := BE.fr0 hf2
      have hG2 := hG1.trans0 hf2
      clear BR1 BE hG1 c1 k1
      have BR2s := (((BR2.setCell 0 (.string p1)).setCell 1 (.int .i64 e1)).other (p := ⟨wr.heap.size, 0, none⟩) hne (.string ps))
      have BE2s := (((BE2.other (p := ⟨w1.heap.size, 0, none⟩) hne2 (.string p1)).other (p := ⟨w1.heap.size, 1, none⟩) hne2 (.int .i64 e1)).setCell 0 (.string ps))
      have hG2s := (((hG2.setCell (p := ⟨w1.heap.size, 0, none⟩) (.inl hRBm) (.string p1)).setCell (p := ⟨w1.heap.size, 1, none⟩) (.inl hRBm) (.int .i64 e1)).setCell (p := ⟨wr.heap.size, 0, none⟩) (.inl hBEm) (.string ps))
      have c2 := BR2.cell
      have f2 := BR2.frozen
      have i2 := BR2.lt
      have d2 := BE2.cell
      have g2 := BE2.frozen
      have j2 := BE2.lt
      have c2s := BR2s.cell
      have f2s := BR2s.frozen
      have d2s := BE2s.cell
      have g2s := BE2s.frozen
      have i2s := BR2s.lt
      have j2s := BE2s.lt
      go_wp2_with fail
      refine (k2 _).mono ?_
      rintro e w3 ⟨rfl, hf3⟩
      have BR3 := BR2s.fr0 hf3
      have BE3 := BE2s.fr0 hf3
      have hG3 := hG2s.trans0 hf3
      clear BR2 BE2 hG2 BR2s BE2s hG2s c2 f2 i2 d2 g2 j2 c2s f2s d2s g2s i2s j2s
      clear k2
      have BR3s := ((BR3.setCell 0 (.string p2)).setCell 1 (.int .i64 e2))
      have BE3s := ((BE3.other (p := ⟨w1.heap.size, 0, none⟩) hne2 (.string p2)).other (p := ⟨w1.heap.size, 1, none⟩) hne2 (.int .i64 e2))
      have hG3s := ((hG3.setCell (p := ⟨w1.heap.size, 0, none⟩) (.inl hRBm) (.string p2)).setCell (p := ⟨w1.heap.size, 1, none⟩) (.inl hRBm) (.int .i64 e2))
      have c3 := BR3.cell
      have f3 := BR3.frozen
      have i3 := BR3.lt
      have d3 := BE3.cell
      have g3 := BE3.frozen
      have j3 := BE3.lt
      have c3s := BR3s.cell
      have f3s := BR3s.frozen
      have d3s := BE3s.cell
      have g3s := BE3s.frozen
      have i3s := BR3s.lt
      have j3s := BE3s.lt
      go_wp2_with fail
      refine (k3 _).mono ?_
      rintro e w4 ⟨rfl, hf4⟩
      have BR4 := BR3s.fr0 hf4
      have BE4 := BE3s.fr0 hf4
      have hG4 := hG3s.trans0 hf4
      clear BR3 BE3 hG3 BR3s BE3s hG3s c3 f3 i3 d3 g3 j3 c3s f3s d3s g3s i3s j3s
      clear k3
      have BR4s := ((BR4.setCell 0 (.string p3)).setCell 1 (.int .i64 e3))
      have BE4s := ((BE4.other (p := ⟨w1.heap.size, 0, none⟩) hne2 (.string p3)).other (p := ⟨w1.heap.size, 1, none⟩) hne2 (.int .i64 e3))
      have hG4s := ((hG4.setCell (p := ⟨w1.heap.size, 0, none⟩) (.inl hRBm) (.string p3)).setCell (p := ⟨w1.heap.size, 1, none⟩) (.inl hRBm) (.int .i64 e3))
      have c4 := BR4.cell
      have f4 := BR4.frozen
      have i4 := BR4.lt
      have d4 := BE4.cell
      have g4 := BE4.frozen
      have j4 := BE4.lt
      have c4s := BR4s.cell
      have f4s := BR4s.frozen
      have d4s := BE4s.cell
      have g4s := BE4s.frozen
      have i4s := BR4s.lt
      have j4s := BE4s.lt
      go_wp2_with fail
      refine (k4 _).mono ?_
      rintro e w5 ⟨rfl, hf5⟩
      have BR5 := BR4s.fr0 hf5
      have BE5 := BE4s.fr0 hf5
      have hG5 := hG4s.trans0 hf5
      clear BR4 BE4 hG4 BR4s BE4s hG4s c4 f4 i4 d4 g4 j4 c4s f4s d4s g4s i4s j4s
      clear k4
      have BR5s := ((((BR5.setCell 0 (.string p4)).setCell 1 (.int .i64 e4)).other (p := ⟨wr.heap.size, 1, none⟩) hne (.bool pa)).other (p := ⟨wr.heap.size, 2, none⟩) hne (.bool pb))
      have BE5s := ((((BE5.other (p := ⟨w1.heap.size, 0, none⟩) hne2 (.string p4)).other (p := ⟨w1.heap.size, 1, none⟩) hne2 (.int .i64 e4)).setCell 1 (.bool pa)).setCell 2 (.bool pb))
      have hG5s := ((((hG5.setCell (p := ⟨w1.heap.size, 0, none⟩) (.inl hRBm) (.string p4)).setCell (p := ⟨w1.heap.size, 1, none⟩) (.inl hRBm) (.int .i64 e4)).setCell (p := ⟨wr.heap.size, 1, none⟩) (.inl hBEm) (.bool pa)).setCell (p := ⟨wr.heap.size, 2, none⟩) (.inl hBEm) (.bool pb))
      have c5 := BR5.cell
      have f5 := BR5.frozen
      have i5 := BR5.lt
      have d5 := BE5.cell
      have g5 := BE5.frozen
      have j5 := BE5.lt
      have c5s := BR5s.cell
      have f5s := BR5s.frozen
      have d5s := BE5s.cell
      have g5s := BE5s.frozen
      have i5s := BR5s.lt
      have j5s := BE5s.lt
      go_wp2_with fail
      refine (kD _).mono ?_
      rintro e w6 (⟨S, g, m, u, hg, hy, rfl, hB, hf6⟩ | ⟨hno, rfl, hf6⟩)
      · obtain ⟨hsb, huok⟩ := hB.un
        obtain ⟨ua, uc, rfl, _⟩ := SlF.open hsb
        unfold rb
        replace Hst := hidIt (Hst.out S g m hg hy)
        have BR6 := BR5s.fr0 hf6
        have BE6 := BE5s.fr0 hf6
        have BB := Blk.new w6 [.int .i64 (S : Int), .int .i64 (g : Int), .slice ua m.length uc] 74
        have hfb := (Fr.refl [] w6).alloc (.cells #[.int .i64 (S : Int), .int .i64 (g : Int), .slice ua m.length uc] 74)
        have hG7 := (hG5s.trans0 hf6).trans0 hfb
        have BR7 := BR6.fr0 hfb
        have BE7 := BE6.fr0 hfb
        have hsb7 := SlF.fr0 hsb hfb
        have d7 := BE7.cell
        have hg' := hg
        have hnb : ¬ wr.heap.size = w6.heap.size := by have := BE6.lt; omega
        clear BR5 BE5 hG5 BR5s BE5s hG5s c5 f5 i5 d5 g5 j5 c5s f5s d5s g5s i5s j5s BR6 BE6 hB hsb hf6 hfb kD hy hg Hno1
        go_wp2_with fail
        refine (kR _).mono ?_
        rintro e w8 ⟨rfl, hf8⟩
        have hG8 := hG7.trans0 hf8
        have hF8 : Fr [] w w8 := hF.trans hG8 (fun x hx hl => by simp only [List.mem_cons, List.not_mem_nil, or_false] at hx; have := hF.size; omega)
        cases hr : okName s with
        | false =>
          have hno := hidIt (Hno2.out (.inl hr))
          clear Hno2 Hst hr
          go_wp2
          go_ret2
          exact .inr ⟨hno.out, rfl, hF8⟩
        | true =>
          have BR8 := BR7.fr0 hf8
          have BE8 := BE7.fr0 hf8
          have BB8 := BB.fr0 hf8
          have hsb8 := SlF.fr0 hsb7 hf8
          have d8 := BE8.cell
          have hR8 : RefE [w1.heap.size] w8 (.slice va P.length vc) P := hR.fr hG8 (fun k hk => by simp only [List.mem_cons, List.not_mem_nil, or_false] at hk; rcases hk with rfl | rfl; exact .inl (by simp); exact .inr (Nat.le_refl _)) (fun k hk => by have := List.mem_singleton.1 hk; subst this; exact ⟨.inl (by simp), BR8.lt⟩)
          clear BR7 BE7 BB hsb7 d7 hG7 hf8 kR
          go_wp2_with fail
          refine (kF _ hR8.sl).mono ?_
          rintro e w9 ⟨rfl, hw9⟩
          replace hw9 := hw9.symm
          subst hw9
          cases hi : idxE (P.map (·.1)) s with
          | some j =>
            have hth : findE (P.map (·.1)) s ≠ none := fun h => by rw [idxE_none.2 h] at hi; cases hi
            have hno := hidIt (Hno2.out (.inr (.inl hth)))
            have hki : idxI (some j) = (j : Int) := rfl
            rw [hki]
            clear Hno2 Hst hi hth hki
            go_wp2
            go_ret2
            exact .inr ⟨hno.out, rfl, hF8⟩
          | none =>
            have hki : idxI none = -1 := rfl
            rw [hki]
            have hfn := hidIt (idxE_none.1 hi)
            clear hi hki
            by_cases hl8 : 8 ≤ P.length
            · have hno := hidIt (Hno2.out (.inr (.inr (by rw [List.length_map]; exact hl8))))
              have hl8' : (8 : Int) ≤ P.length := by omega
              clear Hno2 Hst
              go_wp2
              go_ret2
              exact .inr ⟨hno.out, rfl, hF8⟩
            · have hl8' : ¬ (8 : Int) ≤ P.length := by omega
              have hokx : OkE (⟨s, pa, pb, S, g, m⟩ : Ent) := ⟨hr, hg'.1, hg'.2.1, hg'.2.2⟩
              have hok2 : OkD (insE (⟨s, pa, pb, S, g, m⟩ : Ent) (P.map (·.1))) := insE_ok hok hokx hfn.out (by rw [List.length_map]; omega)
              have f8 := BE8.frozen
              have j8 := BE8.lt
              have b8 := BB8.cell
              have BE9 := ((BE8.setCell 3 (.int .i64 (S : Int))).setCell 4 (.int .i64 (g : Int))).setCell 5 (.slice ua m.length uc)
              have d9 := BE9.cell
              have hfs := Fr.set3' w8 wr.heap.size 3 4 5 (.int .i64 (S : Int)) (.int .i64 (g : Int)) (.slice ua m.length uc)
              have BR9 := BR8.fr hfs (by simpa using hne)
              have hR9 : RefE [w1.heap.size] (((w8.setCell ⟨wr.heap.size, 3, none⟩ (.int .i64 (S : Int))).setCell ⟨wr.heap.size, 4, none⟩ (.int .i64 (g : Int))).setCell ⟨wr.heap.size, 5, none⟩ (.slice ua m.length uc)) (.slice va P.length vc) P := hR.fr (hG8.trans hfs (fun x hx _ => by have := List.mem_singleton.1 hx; subst this; exact hBEm)) (fun k hk => by simp only [List.mem_cons, List.not_mem_nil, or_false] at hk; rcases hk with rfl | rfl; exact .inl (by simp); exact .inr (Nat.le_refl _)) (fun k hk => by have := List.mem_singleton.1 hk; subst this; exact ⟨.inl (by simp), BR9.lt⟩)
              have hsb9 := SlB.put (SlB.put (SlB.put hsb8 (d8 3) (by simp) (.int .i64 (S : Int))) ((BE8.setCell 3 (.int .i64 (S : Int))).cell 4) (by simp) (.int .i64 (g : Int))) (((BE8.setCell 3 (.int .i64 (S : Int))).setCell 4 (.int .i64 (g : Int))).cell 5) (by simp) (.slice ua m.length uc)
              have huH : okH [w1.heap.size] (.slice ua m.length uc) := ⟨huok, fun k o n c e0 hn hm => by
                have hk := List.mem_singleton.1 hm
                cases e0
                subst hk
                obtain ⟨b', off', hab, _, hc⟩ := SlB.at hsb8 (i := 0) hn
                cases hab
                rw [BR8.cell] at hc
                match o with
                | 0 => cases hc
                | 1 => cases hc
                | o + 2 => cases hc⟩
              have kP := rPut_calls _ P (⟨s, pa, pb, S, g, m⟩, .slice ua m.length uc) _ hR9 (by omega) ⟨hsb9, huH⟩
              unfold enV at kP
              simp only at kP
              rw [hps.out] at kP
              rw [← hp4.out] at BR9
              have hF9 : Fr [] w (((w8.setCell ⟨wr.heap.size, 3, none⟩ (.int .i64 (S : Int))).setCell ⟨wr.heap.size, 4, none⟩ (.int .i64 (g : Int))).setCell ⟨wr.heap.size, 5, none⟩ (.slice ua m.length uc)) := hF8.trans hfs (fun x hx hl => by have := List.mem_singleton.1 hx; have := hF.size; omega)
              have Hins : Hid ((insP ((⟨s, pa, pb, S, g, m⟩ : Ent), .slice ua m.length uc) P).map (·.1) = insE ⟨s, pa, pb, S, g, m⟩ (P.map (·.1))) := hidIt (insP_E _ _)
              have Hrd := hidIt (HrdE.out S g m)
              replace hok2 := hidIt hok2
              clear hsb8 hsb9 huH huok hokx hok hfn Hno2 hR8 hR9 BE9 hfs HrdE hg' hF8 hG8 hR
              generalize insP ((⟨s, pa, pb, S, g, m⟩ : Ent), .slice ua m.length uc) P = PP at *
              go_wp2_with fail
              refine kP.mono ?_
              rintro e w10 ⟨v', rfl, hv', hf10⟩
              have BR10 := BR9.fr0 hf10
              have hF10 := hF9.trans0 hf10
              go_wp2
              go_roundw
              case rel => exact ⟨k + 1, PP, l4, e4, by omega, by go_num, hv', by rw [Hins.out]; exact hok2.out, BR10, hl4, by rw [Hins.out, Hrd.out]; exact Hst.out, hF10⟩
              case measure => simp [intOf]; omega
      · have hF6 : Fr [] w w6 := (hF.trans hG5s (fun x hx hl => by simp only [List.mem_cons, List.not_mem_nil, or_false] at hx; have := hF.size; omega)).trans0 hf6
        have hno2 := hidIt (Hno1.out hno)
        clear Hno1 Hno2 Hst
        unfold z0
        go_wp2
        go_ret2
        exact .inr ⟨hno2.out, rfl, hF6.alloc _⟩
    · have hke : k = n := by omega
      subst hke
      have hdn := hidIt hrd.done
      have hlenb : (P.map (·.1)).length ≤ 8 := hok.few
      have kE := fun X (h : RefE [w1.heap.size] X (.slice va P.length vc) P) => rEncodeD_calls (.slice va P.length vc) P true X h hok
      go_wp2_with fail
      refine (kE _ hR).mono ?_
      rintro e w2 ⟨rfl, hf2⟩
      have hF2 := hF.trans0 hf2
      by_cases he : encD (P.map (·.1)) true = bs
      · have hR2 : RefE [] w2 (.slice va P.length vc) P := (hR.fr0 hf2).fr (M := []) (Fr.refl _ _) (fun k hk => by cases hk) (fun k hk => by cases hk)
        have he' : decide (encD (P.map (·.1)) true = bs) = true := decide_eq_true he
        have He := hidIt he
        clear he
        generalize encD (P.map (·.1)) true = eb at he' ⊢
        go_wp2
        go_ret2
        exact .inl ⟨_, P, hok, He.out, rfl, hR2, hF2⟩
      · have he' : decide (encD (P.map (·.1)) true = bs) = false := decide_eq_false he
        have hno : ∀ E, OkD E → encD E true ≠ bs := fun E hE hb => he (by rw [← (hdn.out E hE hb).1]; exact hb)
        have Hno := hidIt hno
        clear he hno
        generalize encD (P.map (·.1)) true = eb at *
        go_wp2
        go_ret2
        exact .inr ⟨Hno.out, rfl, hF2⟩
end Go.Proofs.YtiifmakhfpllnaaGreat
