/-
  Package image: Refs.
-/
import Derived.Test.YtilhbjjjmdnjmaaGreatM43
import Derived.Test.YtilhbjjjmdnjmaaGreatM23
namespace Go.Proofs.YtilhbjjjmdnjmaaGreat
open Go.RowKit Go.Maps
attribute [local go_sem] Oper.semAt_some
attribute [local go_sem] mapAt_alloc mapAt_setCell mapAt_drew mapAt_drewN

/-! ### plain: the slots counted, table by table -/
def cnt1 (b : List Nat) (s : Slt) : List Nat := if s.1 = 1 then b.set (hst s) (b.getD (hst s) 0 + 1) else b
def cntR (b : List Nat) (q : List Slt) : List Nat := q.foldl cnt1 b
theorem cnt1_len (b : List Nat) (s : Slt) : (cnt1 b s).length = b.length := by unfold cnt1; split <;> simp
theorem cntR_len (q : List Slt) : ∀ b : List Nat, (cntR b q).length = b.length := by
  induction q with
  | nil => exact fun _ => rfl
  | cons s q ih => exact fun b => (ih (cnt1 b s)).trans (cnt1_len b s)
theorem cnt1_getD {b : List Nat} {s : Slt} (hs : s.1 = 1 → hst s < b.length) (h : Nat) : (cnt1 b s).getD h 0 = b.getD h 0 + (if isH h s = true then 1 else 0) := by
  unfold cnt1
  by_cases h1 : s.1 = 1
  · rw [if_pos h1, getD_setN _ _ _ _ (hs h1)]
    by_cases e : h = hst s
    · subst e; rw [if_pos rfl, if_pos (by simp [isH, h1])]
    · rw [if_neg e, if_neg (by simp [isH, h1]; exact fun h' => e h'.symm)]; rfl
  · rw [if_neg h1, isH_ne h1]; rfl
theorem cntR_getD (q : List Slt) : ∀ b : List Nat, (∀ s ∈ q, s.1 = 1 → hst s < b.length) → ∀ h, (cntR b q).getD h 0 = b.getD h 0 + cntT q h := by
  induction q with
  | nil => intro b _ h; simp [cntR, cntT]
  | cons s q ih =>
    intro b hq h
    have h1 := ih (cnt1 b s) (fun x hx hx1 => by rw [cnt1_len]; exact hq x (List.mem_cons_of_mem _ hx) hx1) h
    unfold cntR at *
    rw [List.foldl_cons, h1, cnt1_getD (hq s List.mem_cons_self), cntT_cons]
    omega
theorem cntR_succ (b : List Nat) {q : List Slt} {k : Nat} (hk : k < q.length) : cntR b (q.take (k + 1)) = cnt1 (cntR b (q.take k)) (q.getD k zS) := by
  rw [takeS_succ hk]; unfold cntR; rw [List.foldl_append]; rfl
def tabsQ (M : Img) : List (List Slt) := M.t :: M.s.map (·.2)
def rowJ (M : Img) (j : Nat) : List Nat := ((tabsQ M).take j).foldl (fun b l => cntR b (eachS l)) (List.replicate M.n.length 0)
def zN (n : Nat) : List Nat := List.replicate n 0
def sumQ (ls : List (List Slt)) (h : Nat) : Nat := (ls.map fun l => cntT l h).sum
theorem rowJ_len (M : Img) (j : Nat) : (rowJ M j).length = M.n.length := by
  unfold rowJ
  generalize (tabsQ M).take j = ls
  have : ∀ (ls : List (List Slt)) (b : List Nat), (ls.foldl (fun b l => cntR b (eachS l)) b).length = b.length := by
    intro ls
    induction ls with
    | nil => exact fun _ => rfl
    | cons l ls ih => intro b; rw [List.foldl_cons, ih, cntR_len]
  rw [this]
  simp
theorem sumQ_all (M : Img) (h : Nat) : sumQ (tabsQ M) h = refs M h := by
  unfold sumQ tabsQ refs cntS
  simp [List.map_map, Function.comp_def]
theorem sumQ_take (ls : List (List Slt)) (j h : Nat) : sumQ (ls.take j) h ≤ sumQ ls h := by
  have e : sumQ ls h = sumQ (ls.take j) h + sumQ (ls.drop j) h := by
    unfold sumQ
    rw [← List.sum_append, ← List.map_append, List.take_append_drop]
  omega
theorem sumQ_succ (ls : List (List Slt)) {j : Nat} (hj : j < ls.length) (h : Nat) : sumQ (ls.take (j + 1)) h = sumQ (ls.take j) h + cntT (ls.getD j []) h := by
  have hg : ls[j] = ls.getD j [] := by rw [List.getD_eq_getElem?_getD, List.getElem?_eq_getElem hj]; rfl
  unfold sumQ
  rw [List.take_succ_eq_append_getElem hj, hg, List.map_append, List.sum_append]
  simp
section
variable {M : Img} (hok : OkI M)
include hok
theorem tabsQ_mem {l : List Slt} (hl : l ∈ tabsQ M) : l.length ≤ 256 ∧ (∀ s ∈ l, rightS s = true) ∧ ∀ s ∈ l, s.1 = 1 → hst s < M.n.length := by
  rcases List.mem_cons.1 hl with rfl | hl
  · exact ⟨hok.len, hok.right, fun s hs h1 => ng_lt (hok.toOkJ.live hs h1)⟩
  · obtain ⟨q, hq, rfl⟩ := List.mem_map.1 hl
    exact ⟨hok.lens q hq, hok.rights q hq, fun s hs h1 => ng_lt (hok.toOkJ.lives hq hs h1)⟩
theorem rowJ_getD (h : Nat) : ∀ j, j ≤ (tabsQ M).length → (rowJ M j).getD h 0 = sumQ ((tabsQ M).take j) h
  | 0, _ => by
    unfold rowJ sumQ
    simp only [List.take_zero, List.foldl_nil, List.map_nil, List.sum_nil, List.getD_eq_getElem?_getD, List.getElem?_replicate]
    split <;> rfl
  | j + 1, hj => by
    have ih := rowJ_getD h j (by omega)
    have hjl : j < (tabsQ M).length := by omega
    have hg : (tabsQ M)[j] = (tabsQ M).getD j [] := by rw [List.getD_eq_getElem?_getD, List.getElem?_eq_getElem hjl]; rfl
    have hm : (tabsQ M).getD j [] ∈ tabsQ M := by rw [← hg]; exact List.getElem_mem hjl
    obtain ⟨h1, h2, h3⟩ := tabsQ_mem hok hm
    have e : rowJ M (j + 1) = cntR (rowJ M j) (eachS ((tabsQ M).getD j [])) := by
      unfold rowJ
      rw [List.take_succ_eq_append_getElem hjl, List.foldl_append, hg]
      rfl
    rw [e, cntR_getD _ _ (fun s hs hs1 => by rw [rowJ_len]; exact h3 s (eachS_mem hs hs1) hs1), ih, eachS_cnt h1, sumQ_succ _ hjl]
theorem rowJ_end : rowJ M (tabsQ M).length = M.n := by
  refine List.ext_getElem (rowJ_len M _) fun i h1 h2 => ?_
  have e := rowJ_getD hok i _ (Nat.le_refl _)
  rw [List.take_length, sumQ_all, ← hok.cnt] at e
  unfold ng at e
  rw [List.getD_eq_getElem?_getD, List.getElem?_eq_getElem h1, List.getD_eq_getElem?_getD, List.getElem?_eq_getElem h2] at e
  exact e
theorem rowJ_small {j k : Nat} (hj : j < (tabsQ M).length) (h : Nat) : (cntR (rowJ M j) ((eachS ((tabsQ M).getD j [])).take k)).getD h 0 ≤ 9 := by
  have hg : (tabsQ M)[j] = (tabsQ M).getD j [] := by rw [List.getD_eq_getElem?_getD, List.getElem?_eq_getElem hj]; rfl
  have hm : (tabsQ M).getD j [] ∈ tabsQ M := by rw [← hg]; exact List.getElem_mem hj
  obtain ⟨h1, h2, h3⟩ := tabsQ_mem hok hm
  rw [cntR_getD _ _ (fun s hs hs1 => by rw [rowJ_len]; exact h3 s (eachS_mem (List.mem_of_mem_take hs) hs1) hs1), rowJ_getD hok h j (by omega)]
  have e1 := cntT_take (eachS ((tabsQ M).getD j [])) k h
  rw [eachS_cnt h1] at e1
  have e2 := sumQ_succ (tabsQ M) hj h
  have e3 := sumQ_take (tabsQ M) (j + 1) h
  rw [sumQ_all, ← hok.cnt] at e3
  have e4 := hok.toOkJ.small h
  omega
end
theorem rowJ_succ (M : Img) {j : Nat} (hj : j < (tabsQ M).length) : rowJ M (j + 1) = cntR (rowJ M j) (eachS ((tabsQ M).getD j [])) := by
  have hg : (tabsQ M)[j] = (tabsQ M).getD j [] := by rw [List.getD_eq_getElem?_getD, List.getElem?_eq_getElem hj]; rfl
  unfold rowJ
  rw [List.take_succ_eq_append_getElem hj, List.foldl_append, hg]
  rfl
/-! ### the walk -/
def refsPost (w : World) (M : Img) (e : Ending) (w' : World) : Prop := ∃ v, e = .returned v ∧ w'.ownsRow w.heap.size 3 1 v M.n.length (M.n.flatMap natC) ∧ Fr [] w w'
theorem slP_at {w : World} {a : Option Addr} {cap n : Nat} {l : List Nat} (h : SlF ptrC w (.slice a n cap) l) {i : Nat} (hi : i < l.length) : ∃ b off, a = some ⟨b, off, none⟩ ∧ b < w.heap.size ∧ w.cell? ⟨b, off + i, none⟩ = some (.pointer (some ⟨l.getD i 0, 0, none⟩)) := by
  obtain ⟨a', cap', hv, _, _, hc⟩ := h.open
  cases hv
  obtain ⟨b, off, rfl, hb, hc⟩ := hc 1 (fun _ => rfl) (by omega) i _ (getD_some 0 hi)
  have := hc 0 _ rfl
  rw [Nat.mul_one, Nat.add_zero] at this
  exact ⟨b, off, rfl, hb, this⟩
section
variable {ib : Nat} {p : Pl} {M : Img}
theorem ImgW.tabAt {w : World} (h : ImgW w ib p M) {j : Nat} (hj : j < (tabsQ M).length) : ∃ tb mb, (tabsL p).getD j 0 = tb ∧ TabW w tb mb ((tabsQ M).getD j []) ∧ (p.r tb).isSome = true ∧ (p.r mb).isSome = true := by
  cases j with
  | zero => exact ⟨p.tb, p.mb, rfl, h.tab, by rw [h.rt]; rfl, by rw [h.rm]; rfl⟩
  | succ j =>
    have hj' : j < M.s.length := by simpa [tabsQ] using hj
    have e1 : (tabsL p).getD (j + 1) 0 = (p.sp.getD j (0, 0)).1 := by
      unfold tabsL
      simp only [List.getD_eq_getElem?_getD, List.getElem?_cons_succ, List.getElem?_map, List.getElem?_eq_getElem (show j < p.sp.length by rw [h.snl]; exact hj')]
      rfl
    have e2 : (tabsQ M).getD (j + 1) [] = (M.s.getD j zQ).2 := by
      unfold tabsQ
      simp only [List.getD_eq_getElem?_getD, List.getElem?_cons_succ, List.getElem?_map, List.getElem?_eq_getElem hj']
      rfl
    rw [e1, e2]
    exact ⟨_, _, rfl, h.snt j hj', by rw [(h.rst j hj').1]; rfl, by rw [(h.rst j hj').2]; rfl⟩
set_option maxRecDepth 100000 in
set_option maxHeartbeats 4000000 in
theorem iRefs_calls (w : World) (h : ImgW w ib p M) (hok : OkI M) : Calls Tryz.prog 64 #[.pointer (some ⟨ib, 0, none⟩)] w (refsPost w M) := by
  have b0 := h.blk.cell
  have l0 := h.blk.lt
  have kL := cLen_calls p.nb p.nv M.n w h.cnt
  have hroom := hok.room
  obtain ⟨n, hn⟩ : ∃ n, Hid (M.n.length = n) := ⟨_, hidIt rfl⟩
  rw [hn.out] at hroom kL
  have hfew := hok.few
  obtain ⟨w0, hrun, hown, hg⟩ := makeN n w (by omega)
  have hF0 : Fr [] w w0 := Fr.of_grown hg
  have hlg : w.heap.size < w0.heap.size := (hown.lt _ rfl).2
  have Bx := Blk.new w0 [.slice (some ⟨w.heap.size, 0, none⟩) n n] 57
  have hfx := (Fr.refl [] w0).alloc (.cells #[.slice (some ⟨w.heap.size, 0, none⟩) n n] 57)
  have hF1 := hF0.trans0 hfx
  have h1 := h.fr0 hF1
  have kT := iTables_calls _ h1 hfew
  have hown1 := owns_fr hown hfx (fun _ _ h => by cases h)
  have hr0 : Hid (rowJ M 0 = zN n) := hidIt (by rw [← hn.out]; rfl)
  have hlz : w.heap.size < (w0.alloc (.cells #[.slice (some ⟨w.heap.size, 0, none⟩) n n] 57)).heap.size := by simp; omega
  unfold tabsPost at kT
  unfold refsPost
  rw [hn.out]
  refine calls_marks Tryz.func64 rfl ?_
  simp only [Tryz.ntmps64, List.size_toArray, List.length_cons, List.length_nil, Nat.reduceAdd, Nat.reduceSub, Array.replicate_succ, Array.replicate_zero, List.push_toArray, List.append_toArray, List.nil_append, List.cons_append]
  go_wp2_with fail
  refine kL.mono ?_
  rintro e w1 ⟨rfl, rfl⟩
  clear kL
  go_wp2_with fail
  refine kT.mono ?_
  rintro e w3 ⟨v, rfl, hownT, hf3⟩
  have hF3 := hF1.trans0 hf3
  have Bx3 := Bx.fr0 hf3
  have hown3 := owns_fr hown1 hf3 (fun _ _ h => by cases h)
  have hz3 := hf3.size
  have hnt : (tabsL p).length = (tabsQ M).length := by simp [tabsL, tabsQ, h.snl]
  obtain ⟨nt, hntq⟩ : ∃ nt, Hid ((tabsQ M).length = nt) := ⟨_, hidIt rfl⟩
  rw [hnt, hntq.out] at hownT
  have hnt9 : nt ≤ 9 := by rw [← hntq.out]; simp [tabsQ]; omega
  have hlb : w0.heap.size < w3.heap.size := Bx3.lt
  obtain ⟨bl, hbl⟩ : ∃ bl, Hid (w0.heap.size = bl) := ⟨_, hidIt rfl⟩
  rw [hbl.out] at Bx3 hlb hlg ⊢
  obtain ⟨av, cv, rfl, _⟩ := Sl.of_owns hownT
  have hsT : SlF ptrC w3 (.slice av nt cv) (tabsL p) := SlF.of_owns (by rw [hnt, hntq.out]; exact hownT)
  have hvn : ∀ y, (Value.slice av nt cv).ownBlock = some y → w.heap.size < y := fun y hy => by have := own_base hownT y hy; omega
  clear kT b0 l0 hrun hown hg hF0 Bx hfx hF1 h1 hown1 hf3 hownT
  go_wp2_with fail
  refine wp_loop (fun a W => ∃ (k : Nat) (Ds : List Nat) (u0 u1 u2 u4 u5 u6 u7 u8 u9 u10 u11 u12 u13 u14 u17 u18 u19 u20 u21 u22 u23 u24 u25 u26 u27 u28 u29 u30 u31 u32 u33 u34 u35 u36 : Value), a = { tmps := #[u0, u1, u2, .pointer (some ⟨bl, 0, none⟩), u4, u5, u6, u7, u8, u9, u10, u11, u12, u13, u14, .slice av nt cv, .int .i64 (nt : Int), u17, u18, u19, u20, u21, u22, u23, u24, u25, u26, u27, u28, u29, u30, u31, u32, u33, u34, u35, u36], defers := Ds.map markOf } ∧ u17 = .int .i64 (k : Int) ∧ k ≤ nt ∧ W.ownsRow w.heap.size 3 1 (.slice (some ⟨w.heap.size, 0, none⟩) n n) n ((rowJ M k).flatMap natC) ∧ Blk W bl [.slice (some ⟨w.heap.size, 0, none⟩) n n] 57 ∧ Marks w3.heap.size Ds W ∧ Fr [w.heap.size] w3 W)
    (fun a _ => nt - (intOf (a.tmps.getD 17 undef)).toNat) ⟨0, [], _, _, _, _, _, _, _, _, _, _, _, _, _, _, _, _, _, _, _, _, _, _, _, _, _, _, _, _, _, _, _, _, _, _, rfl, rfl, Nat.zero_le _, by rw [hr0.out]; exact hown3, Bx3, Marks.nil _ _, Fr.refl _ _⟩ ?_
  clear hown3 Bx3 hr0
  rintro a wr ⟨k, Ds, u0, u1, u2, u4, u5, u6, u7, u8, u9, u10, u11, u12, u13, u14, u17, u18, u19, u20, u21, u22, u23, u24, u25, u26, u27, u28, u29, u30, u31, u32, u33, u34, u35, u36, rfl, rfl, hk, ho, hB, hMk, hF⟩
  by_cases hlt : k < nt
  · have hB0 := hB
    obtain ⟨tb, mb, htb, hT, ht1, ht2⟩ := (h.fr0 ((hF3.trans hF (fun y hy hl => by have := List.mem_singleton.1 hy; omega)))).tabAt (j := k) (by rw [hntq.out]; exact hlt)
    obtain ⟨bT, oT, rfl, hbT, cT⟩ := slP_at (SlF.fr hsT hF (fun y hy hm => by have := hvn y hy; have := List.mem_singleton.1 hm; omega)) (by rw [hnt, hntq.out]; exact hlt)
    rw [htb] at cT
    have hlr := hidIt (rowJ_len M k)
    have hsm := fun kk x => hidIt (rowJ_small hok (j := k) (k := kk) (by rw [hntq.out]; exact hlt) x)
    have hnx := hidIt (rowJ_succ M (j := k) (by rw [hntq.out]; exact hlt))
    have hmm : (tabsQ M).getD k [] ∈ tabsQ M := by
      have hl : k < (tabsQ M).length := by rw [hntq.out]; exact hlt
      rw [List.getD_eq_getElem?_getD, List.getElem?_eq_getElem hl]; exact List.getElem_mem hl
    obtain ⟨hl256, hrt, hlv⟩ := tabsQ_mem hok hmm
    have hFw : Fr [] w wr := hF3.trans hF (fun y hy hl => by have := List.mem_singleton.1 hy; omega)
    obtain ⟨R1, hR1⟩ : ∃ R1, Hid (rowJ M (k + 1) = R1) := ⟨_, hidIt rfl⟩
    rw [hR1.out] at hnx
    rw [hn.out] at hlr hlv
    clear hmm htb
    generalize rowJ M k = R0 at *
    generalize (tabsQ M).getD k [] = l at *
    have cB := hB.cell
    have hzw := hF.size
    go_wp2_with fail
    refine (tEach_calls tb _).mono ?_
    rintro e w5 ⟨bt, rfl, hbt, hf5, hb5⟩
    have hT5 := hT.fr0 hf5
    have ho5 := owns_fr ho hf5 (fun _ _ h => by cases h)
    have hB5 := hB.fr0 hf5
    have hMk5 := hMk.fr0 hf5
    have hF5 := hF.trans0 hf5
    have hseq := tEach_seq bt tb mb l w5 hbt hT5
    have hz5 := hf5.size
    have hlb5 := hB5.lt
    have hlbt := hbt.lt
    have hM5 := hMk5.lt
    have htbw := (hT.lt)
    have hnst : ∀ kk, kk < (listed l).length → Hid (cntR R0 ((eachS l).take (kk + 1)) = cnt1 (cntR R0 ((eachS l).take kk)) ((eachS l).getD kk zS)) := fun kk hkk => hidIt (cntR_succ R0 (by rw [eachS_len]; exact hkk))
    have hsl : ∀ kk, kk < (listed l).length → ((eachS l).getD kk zS).1 = 1 → Hid (((eachS l).getD kk zS).2.1 = (hst ((eachS l).getD kk zS) : Int) ∧ hst ((eachS l).getD kk zS) < n) := fun kk hkk h1 => hidIt (by
      have hm := getD_memS (l := eachS l) (c := kk) (by rw [eachS_len]; exact hkk)
      have hm' := eachS_mem hm h1
      exact ⟨(host_nat (hrt _ hm') h1).1, hlv _ hm' h1⟩)
    have hce : Hid (cntR R0 ((eachS l).take (listed l).length) = cntR R0 (eachS l)) := hidIt (by rw [← eachS_len, List.take_length])
    have hcl : ∀ kk, Hid ((cntR R0 ((eachS l).take kk)).length = n) := fun kk => hidIt (by rw [cntR_len]; exact hlr.out)
    have hgtb : tb < w.heap.size ∧ mb < w.heap.size := ⟨h.low _ ht1, h.low _ ht2⟩
    clear ho hB hMk hF hT hbt hf5 cT cB hrt hlv hsT
    go_wp2_with fail
    refine wp_rangeFunc_seq rfl (enters_of Tryz.func103 (by kernel_rfl) rfl) hseq (Fr.refl _ _) (fun kk f A => f = [w.heap.size] ∧ A.ownsRow w.heap.size 3 1 (.slice (some ⟨w.heap.size, 0, none⟩) n n) n ((cntR R0 ((eachS l).take kk)).flatMap natC) ∧ Blk A bl [.slice (some ⟨w.heap.size, 0, none⟩) n n] 57 ∧ Marks w3.heap.size Ds A ∧ Fr [w.heap.size] w3 A) (fun _ _ _ => False) [w.heap.size] ?st (fun _ _ _ _ _ h _ _ => h) (by simp) (fun y hy => ?fp) ⟨rfl, ho5, hB5, hMk5, hF5⟩ ?round ?done (fun _ _ _ _ _ _ h _ => h.elim)
    case fp =>
      have e := List.mem_singleton.1 hy
      subst e
      exact ⟨by omega, fun e => by rcases e with e | e | e <;> omega⟩
    case st =>
      rintro kk f A B M' ⟨rfl, ho, hb, hm, hf⟩ hF hM'
      have nm : ∀ x, x < w5.heap.size → x ∉ M' := fun x hx hm => by rcases hM' x hm with h | h; cases h; omega
      exact ⟨rfl, owns_fr ho hF (fun y hy => nm y (by have e : w.heap.size = y := by simpa [Value.ownBlock] using hy
                                                      omega)), stab_blk hb hF hM' hlb5 (by simp), hm.fr hF (fun D hD => nm D (hM5 D hD)), hf.trans hF (fun x hx hl => absurd hx (nm x (by omega)))⟩
    case round =>
      rintro lp kk f A args q1 q2 q3 q4 hkk ⟨rfl, ho, hb, hm, hf⟩ rfl
      refine ⟨rfl, ?_⟩
      rw [← eachS_getD hkk]
      have hx := hnst kk hkk
      have hy := hsl kk hkk
      have hl1 := hcl kk
      have hsmk := hsm kk
      obtain ⟨C1, hC1⟩ : ∃ C1, Hid (cntR R0 ((eachS l).take (kk + 1)) = C1) := ⟨_, hidIt rfl⟩
      rw [hC1.out] at hx
      clear hseq hnst hsl hce hcl hkk hsm hnx
      generalize cntR R0 ((eachS l).take kk) = C0 at *
      generalize (eachS l).getD kk zS = s at *
      obtain ⟨a, b, o⟩ := s
      unfold slotV
      simp only
      have hfp := (Fr.refl [] A).alloc (.cells #[.int .i64 a, .int .i64 b, .bool o] 90)
      gi_wp2
      have Bp := Blk.new A [.int .i64 a, .int .i64 b, .bool o] 90
      have hq4 := hfp.size
      have hlA := hb.lt
      refine ⟨⟨owns_fr ho hfp (fun _ _ h => by cases h), hb.fr0 hfp, hm.fr0 hfp, hf.trans0 hfp⟩, ?_⟩
      clear ho hb hm hf
      rintro A2 ho hb hm hf hF2 hsz2
      have hlA2 : A.heap.size < A2.heap.size := by omega
      have Bp2 := Bp.fr hF2 (by simp; omega)
      have cp := Bp2.cell
      have cb := hb.cell
      have lb := hb.lt
      have fin : ∀ A3, A3.ownsRow w.heap.size 3 1 (.slice (some ⟨w.heap.size, 0, none⟩) n n) n (C1.flatMap natC) → Fr [w.heap.size] A2 A3 → ∃ f', (f' = [w.heap.size] ∧ A3.ownsRow w.heap.size 3 1 (.slice (some ⟨w.heap.size, 0, none⟩) n n) n ((cntR R0 ((eachS l).take (kk + 1))).flatMap natC) ∧ Blk A3 bl [.slice (some ⟨w.heap.size, 0, none⟩) n n] 57 ∧ Marks w3.heap.size Ds A3 ∧ Fr [w.heap.size] w3 A3) ∧ Fr [w.heap.size] A2 A3 ∧ ∀ x ∈ f', x < A3.heap.size ∧ (x ∈ [w.heap.size] ∨ A2.heap.size ≤ x) := fun A3 ho3 hf3 => by
        have hz := hf3.size
        refine ⟨_, ⟨rfl, by rw [hC1.out]; exact ho3, hb.fr hf3 (by simp; omega), hm.fr hf3 (fun D hD hm' => by have := hm.ge D hD; have := List.mem_singleton.1 hm'; omega), hf.trans' hf3⟩, hf3, fun y hy => by have := List.mem_singleton.1 hy; subst this; exact ⟨by omega, .inl List.mem_cons_self⟩⟩
      replace fin := hidIt fin
      by_cases ha : a = 1
      · subst ha
        obtain ⟨hyb, hyn⟩ := (hy rfl).out
        have hcx : cnt1 C0 (1, b, o) = C0.set (hst ((1 : Int), b, o)) (C0.getD (hst ((1 : Int), b, o)) 0 + 1) := by unfold cnt1; rw [if_pos rfl]
        rw [hcx] at hx
        have hs9 := (hsmk (hst ((1 : Int), b, o))).out
        generalize hst ((1 : Int), b, o) = y at *
        subst hyb
        have hcf := owns_at ho (flatN_at C0 y (by rw [hl1.out]; exact hyn))
        obtain ⟨hc, hfz⟩ := hcf
        have hput := owns_put ho y (.int .i64 ((C0.getD y 0 : Nat) + 1 : Int))
        have hfl : (C1.flatMap natC) = (C0.flatMap natC).set y (.int .i64 ((C0.getD y 0 : Nat) + 1 : Int)) := by rw [hx.out, flatN_set]; rfl
        rw [← hfl] at hput
        have hs1 := Fr.setCell (p := ⟨w.heap.size, y, none⟩) (Fr.refl [w.heap.size] A2) (.inl (by simp)) (.int .i64 ((C0.getD y 0 : Nat) + 1 : Int))
        have hfin := hidIt (fin.out _ hput hs1)
        clear fin hput hs1 hfl hx hcx hsmk hl1
        generalize C0.getD y 0 = cy at *
        clear hy
        gi_wp2
        exact hfin.out
      · have hcx : cnt1 C0 (a, b, o) = C0 := by unfold cnt1; rw [if_neg ha]
        rw [hcx] at hx
        have ha' : (a == 1) = false := by simpa using ha
        have hfin := fin.out A2 (by rw [hx.out]; exact ho) (Fr.refl _ _)
        clear fin ha hsmk hy
        gi_wp2
        exact hfin
    case done =>
      rintro D f W hD1 hD2 ⟨rfl, ho, hb, hm, hf⟩ hK
      have hMd := hm.cons hK (by omega) (fun h => by have := hM5 D h; omega)
      rw [hce.out, ← hnx.out] at ho
      clear hseq hnst hsl hce hcl hm hK hM5 hMk5
      go_wp2
      refine ⟨⟨k + 1, D :: Ds, _, _, _, _, _, _, _, _, _, _, _, _, _, _, _, _, _, _, _, _, _, _, _, _, _, _, _, _, _, _, _, _, _, _, rfl, by go_num, by omega, by rw [hR1.out]; exact ho, hb, hMd, hf⟩, ?_⟩
      show nt - ((k : Int) + 1).toNat < nt - ((k : Nat) : Int).toNat
      omega
  · have hke : k = nt := by omega
    subst hke
    have he := rowJ_end hok
    rw [hntq.out] at he
    rw [he] at ho
    have cB := hB.cell
    go_wp2
    refine leave_marks rfl hMk (fun W' _ => results_tmp rfl _ _ _) fun W' hF' => ⟨_, rfl, owns_fr ho hF' (fun y hy hm => ?_), (hF3.trans hF (fun y hy hl => by have := List.mem_singleton.1 hy; omega)).trans hF' (fun y hy hl => by have := hMk.ge y hy; omega)⟩
    have e : w.heap.size = y := by simpa [Value.ownBlock] using hy
    have := hMk.ge y hm
    omega
end
end Go.Proofs.YtilhbjjjmdnjmaaGreat
