/-
  An image in memory: where its parts lie; each block has a part of its own (a number: 0 the image, 1 its table, 2 the table's map, 3 the counts, 4 their row, 5 the map of bytes, 6 the row of snapshots, 7 snapshots' tables, 8 + h the bytes of host h).
-/
import Derived.Test.YtilhbjjjmdnjmaaGreatM02
import Derived.Test.YtilhbjjjmdnjmaaGreatM03
import Derived.Test.YtilhbjjjmdnjmaaGreatM08
import Derived.Test.YtilhbjjjmdnjmaaGreatM11
namespace Go.Proofs.YtilhbjjjmdnjmaaGreat
open Go.RowKit Go.Maps

structure Pl where
  tb : Nat
  mb : Nat
  nb : Nat
  db : Nat
  nv : Value
  sv : Value
  sp : List (Nat × Nat)
  dv : Nat → Value
  r : Nat → Option Nat
def datM (M : Img) (p : Pl) : Value → Option Value
  | .int .i64 k => if 0 ≤ k then (M.d k.toNat).map fun _ => p.dv k.toNat else none
  | _ => none
theorem datM_int (M : Img) (p : Pl) (k : Int) : datM M p (.int .i64 k) = if 0 ≤ k then (M.d k.toNat).map fun _ => p.dv k.toNat else none := rfl
theorem datM_nat (M : Img) (p : Pl) (h : Nat) : datM M p (.int .i64 (h : Int)) = (M.d h).map fun _ => p.dv h := by
  rw [datM_int, if_pos (by omega), Int.toNat_natCast]
def snL (s : List (By × List Slt)) (sp : List (Nat × Nat)) : List (By × Nat) := List.zipWith (fun q x => (q.1, x.1)) s sp
theorem snL_len {s : List (By × List Slt)} {sp : List (Nat × Nat)} (h : sp.length = s.length) : (snL s sp).length = s.length := by simp [snL, h]
structure ImgW (w : World) (ib : Nat) (p : Pl) (M : Img) : Prop where
  blk : Blk w ib [.int .i64 (M.B : Int), .pointer (some ⟨p.tb, 0, none⟩), .pointer (some ⟨p.nb, 0, none⟩), .map (some p.db), p.sv] 74
  tab : TabW w p.tb p.mb M.t
  cnt : CntW w p.nb p.nv M.n
  dat : ∃ es clock, mapAt w p.db = some (es, clock) ∧ IsM Tryz.prog 3 es clock (datM M p)
  byt : ∀ h b, M.d h = some b → w.ownsRow 0 5 1 (p.dv h) b.length (b.flatMap byC)
  sn : w.ownsRow 0 113 2 p.sv M.s.length ((snL M.s p.sp).flatMap snC)
  snl : p.sp.length = M.s.length
  snt : ∀ i, i < M.s.length → TabW w (p.sp.getD i (0, 0)).1 (p.sp.getD i (0, 0)).2 (M.s.getD i zQ).2
  low : ∀ k, (p.r k).isSome = true → k < w.heap.size
  ri : p.r ib = some 0
  rt : p.r p.tb = some 1
  rm : p.r p.mb = some 2
  rn : p.r p.nb = some 3
  rr : ∀ k, p.nv.ownBlock = some k → p.r k = some 4
  rd : p.r p.db = some 5
  rs : ∀ k, p.sv.ownBlock = some k → p.r k = some 6
  rst : ∀ i, i < M.s.length → p.r (p.sp.getD i (0, 0)).1 = some 7 ∧ p.r (p.sp.getD i (0, 0)).2 = some 7
  rb : ∀ h b, M.d h = some b → ∀ k, (p.dv h).ownBlock = some k → p.r k = some (8 + h)
section
variable {w w' : World} {ib : Nat} {p : Pl} {M : Img}
/-- what stays where blocks of other parts turn -/
structure Kept (S : Nat → Prop) (w' : World) (ib : Nat) (p : Pl) (M : Img) : Prop where
  blk : ¬ S 0 → Blk w' ib [.int .i64 (M.B : Int), .pointer (some ⟨p.tb, 0, none⟩), .pointer (some ⟨p.nb, 0, none⟩), .map (some p.db), p.sv] 74
  tab : ¬ S 1 → ¬ S 2 → TabW w' p.tb p.mb M.t
  cnt : ¬ S 3 → ¬ S 4 → CntW w' p.nb p.nv M.n
  dat : ¬ S 5 → ∃ es clock, mapAt w' p.db = some (es, clock) ∧ IsM Tryz.prog 3 es clock (datM M p)
  byt : ∀ h b, M.d h = some b → ¬ S (8 + h) → w'.ownsRow 0 5 1 (p.dv h) b.length (b.flatMap byC)
  sn : ¬ S 6 → w'.ownsRow 0 113 2 p.sv M.s.length ((snL M.s p.sp).flatMap snC)
  snt : ¬ S 7 → ∀ i, i < M.s.length → TabW w' (p.sp.getD i (0, 0)).1 (p.sp.getD i (0, 0)).2 (M.s.getD i zQ).2
  low : ∀ k, (p.r k).isSome = true → k < w'.heap.size
theorem ImgW.kept {S : Nat → Prop} {L : List Nat} (h : ImgW w ib p M) (hf : Fr L w w') (hL : ∀ k ∈ L, ∀ x, p.r k = some x → S x) : Kept S w' ib p M := by
  have nm : ∀ {k x}, p.r k = some x → ¬ S x → k ∉ L := fun hk hS hm => hS (hL _ hm _ hk)
  refine ⟨fun h0 => h.blk.fr hf (nm h.ri h0), fun h1 h2 => h.tab.fr hf (nm h.rt h1) (nm h.rm h2), fun h3 h4 => h.cnt.fr hf (nm h.rn h3) (fun k hk => nm (h.rr k hk) h4), fun h5 => ?_, fun x b hb hS => owns_fr (h.byt x b hb) hf (fun k hk => nm (h.rb x b hb k hk) hS),
    fun h6 => owns_fr h.sn hf (fun k hk => nm (h.rs k hk) h6), fun h7 i hi => (h.snt i hi).fr hf (nm (h.rst i hi).1 h7) (nm (h.rst i hi).2 h7), fun k hk => Nat.lt_of_lt_of_le (h.low k hk) hf.size⟩
  obtain ⟨es, clock, hm, hi⟩ := h.dat
  exact ⟨es, clock, mapAt_fr hm hf (nm h.rd h5), hi⟩
/-- none of its blocks turns -/
theorem ImgW.fr {L : List Nat} (h : ImgW w ib p M) (hf : Fr L w w') (hL : ∀ k ∈ L, p.r k = none) : ImgW w' ib p M := by
  have k := h.kept (S := fun _ => False) hf (fun k hk x hx => by rw [hL k hk] at hx; cases hx)
  have nf : ¬ False := fun h => h
  exact ⟨k.blk nf, k.tab nf nf, k.cnt nf nf, k.dat nf, fun x b hb => k.byt x b hb nf, k.sn nf, h.snl, k.snt nf, k.low, h.ri, h.rt, h.rm, h.rn, h.rr, h.rd, h.rs, h.rst, h.rb⟩
theorem ImgW.fr0 (h : ImgW w ib p M) (hf : Fr [] w w') : ImgW w' ib p M := h.fr hf (fun _ h => by cases h)
theorem ImgW.new (h : ImgW w ib p M) {k : Nat} (hk : w.heap.size ≤ k) : p.r k = none := by
  cases hr : p.r k with
  | none => rfl
  | some x =>
    have := h.low k (by rw [hr]; rfl)
    omega
/-! ### its blocks -/
def own (p : Pl) (w : World) : List Nat := (List.range w.heap.size).filter fun k => (p.r k).isSome
theorem mem_own {k : Nat} : k ∈ own p w ↔ k < w.heap.size ∧ (p.r k).isSome = true := by simp [own]
/-- a step: none but its blocks have turned; it has new ones, at the most -/
structure Step (w : World) (p : Pl) (w' : World) (p' : Pl) : Prop where
  fr : Fr (own p w) w w'
  new : ∀ k, (p'.r k).isSome = true → (p.r k).isSome = true ∨ w.heap.size ≤ k
theorem Step.refl (w : World) (p : Pl) : Step w p w p := ⟨Fr.refl _ _, fun _ h => .inl h⟩
theorem Step.trans {w1 w2 : World} {p1 p2 : Pl} (h : Step w p w1 p1) (h' : Step w1 p1 w2 p2) : Step w p w2 p2 := by
  refine ⟨h.fr.trans h'.fr fun x hx hl => ?_, fun k hk => ?_⟩
  · rcases h.new x (mem_own.1 hx).2 with h1 | h1
    · exact mem_own.2 ⟨hl, h1⟩
    · omega
  · rcases h'.new k hk with h1 | h1
    · exact h.new k h1
    · exact .inr (Nat.le_trans h.fr.size h1)
theorem Step.of_fr {L : List Nat} (hf : Fr L w w') (hL : ∀ k ∈ L, k < w.heap.size → (p.r k).isSome = true) : Step w p w' p := ⟨hf.mono fun x hx hl => mem_own.2 ⟨hl, hL x hx hl⟩, fun _ h => .inl h⟩
theorem Step.fr0 (hf : Fr [] w w') : Step w p w' p := Step.of_fr hf (fun _ h => by cases h)
theorem Step.box {w2 : World} {p1 : Pl} {L : List Nat} (h : Step w p w' p1) (hf : Fr L w' w2) (hL : ∀ k ∈ L, w.heap.size ≤ k) : Step w p w2 p1 := ⟨h.fr.trans hf (fun x hx hl => by have := hL x hx; omega), h.new⟩
/-! ### its parts turn -/
theorem ImgW.setT (h : ImgW w ib p M) {t' : List Slt} {L : List Nat} (hT : TabW w' p.tb p.mb t') (hf : Fr L w w') (hL : ∀ k ∈ L, k = p.tb ∨ k = p.mb) : ImgW w' ib p { M with t := t' } := by
  have k := h.kept (S := fun x => x = 1 ∨ x = 2) hf (fun k hk x hx => by
    rcases hL k hk with rfl | rfl
    · rw [h.rt] at hx; cases hx; exact .inl rfl
    · rw [h.rm] at hx; cases hx; exact .inr rfl)
  exact ⟨k.blk (by omega), hT, k.cnt (by omega) (by omega), k.dat (by omega), fun x b hb => k.byt x b hb (by omega), k.sn (by omega), h.snl, k.snt (by omega), k.low, h.ri, h.rt, h.rm, h.rn, h.rr, h.rd, h.rs, h.rst, h.rb⟩
theorem ImgW.setN (h : ImgW w ib p M) {n' : List Nat} {L : List Nat} (hN : CntW w' p.nb p.nv n') (hf : Fr L w w') (hL : ∀ k ∈ L, p.nv.ownBlock = some k) : ImgW w' ib p { M with n := n' } := by
  have k := h.kept (S := fun x => x = 4) hf (fun k hk x hx => by
    rw [h.rr k (hL k hk)] at hx; cases hx; rfl)
  exact ⟨k.blk (by omega), k.tab (by omega) (by omega), hN, k.dat (by omega), fun x b hb => k.byt x b hb (by omega), k.sn (by omega), h.snl, k.snt (by omega), k.low, h.ri, h.rt, h.rm, h.rn, h.rr, h.rd, h.rs, h.rst, h.rb⟩
/-- bytes are taken out of the map -/
theorem datM_del (M : Img) (p : Pl) (h : Nat) : upd (datM M p) (.int .i64 (h : Int)) none = datM { M with d := setF M.d h none } p := by
  funext v
  by_cases e : v = .int .i64 (h : Int)
  · subst e
    rw [upd_same, datM_nat]
    simp [setF]
  · rw [upd_other _ _ e]
    cases v with
    | int q k =>
      cases q <;> first | rfl | skip
      rw [datM_int, datM_int]
      by_cases hk : 0 ≤ k
      · rw [if_pos hk, if_pos hk]
        have : k.toNat ≠ h := fun e' => e (by rw [← e']; congr 1; omega)
        simp [setF, this]
      · rw [if_neg hk, if_neg hk]
    | _ => rfl
theorem ImgW.delD (h : ImgW w ib p M) {x : Nat} {es : Array MapEntry} {clock : Nat} (hm : mapAt w' p.db = some (es, clock)) (hi : IsM Tryz.prog 3 es clock (upd (datM M p) (.int .i64 (x : Int)) none)) (hf : Fr [p.db] w w') :
    ImgW w' ib p { M with d := setF M.d x none } := by
  have k := h.kept (S := fun x => x = 5) hf (fun k hk x hx => by
    rw [List.mem_singleton.1 hk, h.rd] at hx; cases hx; rfl)
  have hd : ∀ y b, setF M.d x none y = some b → M.d y = some b := fun y b hb => by
    unfold setF at hb
    split at hb
    · cases hb
    · exact hb
  rw [datM_del] at hi
  exact ⟨k.blk (by omega), k.tab (by omega) (by omega), k.cnt (by omega) (by omega), ⟨es, clock, hm, hi⟩, fun y b hb => k.byt y b (hd y b hb) (by omega), k.sn (by omega), h.snl, k.snt (by omega), k.low, h.ri, h.rt, h.rm, h.rn, h.rr, h.rd, h.rs, h.rst, fun y b hb => h.rb y b (hd y b hb)⟩
/-- bytes are put into the map: a row of its own -/
def Pl.putD (p : Pl) (x : Nat) (v : Value) : Pl := { p with dv := fun y => if y = x then v else p.dv y, r := fun k => if v.ownBlock = some k then some (8 + x) else p.r k }
theorem datM_put (M : Img) (p : Pl) (x : Nat) (v : Value) (b : By) : upd (datM M p) (.int .i64 (x : Int)) (some v) = datM { M with d := setF M.d x (some b) } (p.putD x v) := by
  funext u
  by_cases e : u = .int .i64 (x : Int)
  · subst e
    rw [upd_same, datM_nat]
    simp [setF, Pl.putD]
  · rw [upd_other _ _ e]
    cases u with
    | int q k =>
      cases q <;> first | rfl | skip
      rw [datM_int, datM_int]
      by_cases hk : 0 ≤ k
      · rw [if_pos hk, if_pos hk]
        have : k.toNat ≠ x := fun e' => e (by rw [← e']; congr 1; omega)
        simp [setF, Pl.putD, this]
      · rw [if_neg hk, if_neg hk]
    | _ => rfl
theorem ImgW.putD (h : ImgW w ib p M) {x : Nat} {v : Value} {b : By} {es : Array MapEntry} {clock : Nat} (hm : mapAt w' p.db = some (es, clock)) (hi : IsM Tryz.prog 3 es clock (upd (datM M p) (.int .i64 (x : Int)) (some v)))
    (hf : Fr [p.db] w w') (hv : w.ownsRow 0 5 1 v b.length (b.flatMap byC)) (hn : ∀ k, v.ownBlock = some k → p.r k = none) : ImgW w' ib (p.putD x v) { M with d := setF M.d x (some b) } := by
  have k := h.kept (S := fun x => x = 5) hf (fun k hk x hx => by
    rw [List.mem_singleton.1 hk, h.rd] at hx; cases hx; rfl)
  have hr : ∀ {k y}, p.r k = some y → (p.putD x v).r k = some y := fun {k y} hk => by
    have : ¬ v.ownBlock = some k := fun e => by rw [hn k e] at hk; cases hk
    show (if v.ownBlock = some k then some (8 + x) else p.r k) = some y
    rw [if_neg this]
    exact hk
  have hv' : w'.ownsRow 0 5 1 v b.length (b.flatMap byC) := owns_fr hv hf (fun k hk hm => by
    rw [List.mem_singleton.1 hm] at hk
    have := hn _ hk
    rw [h.rd] at this
    cases this)
  rw [datM_put M p x v b] at hi
  refine ⟨k.blk (by omega), k.tab (by omega) (by omega), k.cnt (by omega) (by omega), ⟨es, clock, hm, hi⟩, fun y c hc => ?_, k.sn (by omega), h.snl, k.snt (by omega), fun y hy => ?_, hr h.ri, hr h.rt, hr h.rm, hr h.rn, fun k hk => hr (h.rr k hk), hr h.rd, fun k hk => hr (h.rs k hk), fun i hi => ⟨hr (h.rst i hi).1, hr (h.rst i hi).2⟩, fun y c hc q hq => ?_⟩
  · by_cases e : y = x
    · subst e
      simp only [setF, if_true] at hc
      cases hc
      simpa [Pl.putD] using hv'
    · simp only [setF, if_neg e] at hc
      have := k.byt y c hc (by omega)
      simpa [Pl.putD, e] using this
  · by_cases e : v.ownBlock = some y
    · exact Nat.lt_of_lt_of_le (hv.lt y e).2 hf.size
    · exact k.low y (by simpa [Pl.putD, e] using hy)
  · by_cases e : y = x
    · subst e
      have hq' : v.ownBlock = some q := by simpa [Pl.putD] using hq
      simp [Pl.putD, hq']
    · simp only [setF, if_neg e] at hc
      have hq' : (p.dv y).ownBlock = some q := by simpa [Pl.putD, e] using hq
      exact hr (h.rb y c hc q hq')
/-- the bytes of a host are others -/
theorem ImgW.setB (h : ImgW w ib p M) {x : Nat} {b b' : By} (hb : M.d x = some b) {L : List Nat} (hv : w'.ownsRow 0 5 1 (p.dv x) b'.length (b'.flatMap byC)) (hf : Fr L w w') (hL : ∀ k ∈ L, (p.dv x).ownBlock = some k) :
    ImgW w' ib p { M with d := setF M.d x (some b') } := by
  have k := h.kept (S := fun y => y = 8 + x) hf (fun k hk y hy => by
    rw [h.rb x b hb k (hL k hk)] at hy; cases hy; rfl)
  have hdat : datM { M with d := setF M.d x (some b') } p = datM M p := by
    funext u
    cases u with
    | int q k =>
      cases q <;> first | rfl | skip
      rw [datM_int, datM_int]
      by_cases hk : 0 ≤ k
      · rw [if_pos hk, if_pos hk]
        by_cases e : k.toNat = x
        · rw [e, hb]; simp [setF]
        · simp [setF, e]
      · rw [if_neg hk, if_neg hk]
    | _ => rfl
  refine ⟨k.blk (by omega), k.tab (by omega) (by omega), k.cnt (by omega) (by omega), by rw [hdat]; exact k.dat (by omega), fun y c hc => ?_, k.sn (by omega), h.snl, k.snt (by omega), k.low, h.ri, h.rt, h.rm, h.rn, h.rr, h.rd, h.rs, h.rst, fun y c hc => ?_⟩
  · by_cases e : y = x
    · subst e
      simp only [setF, if_true] at hc
      cases hc
      exact hv
    · simp only [setF, if_neg e] at hc
      exact k.byt y c hc (by omega)
  · by_cases e : y = x
    · subst e
      exact h.rb y b hb
    · simp only [setF, if_neg e] at hc
      exact h.rb y c hc
/-- another table -/
def Pl.putT (p : Pl) (tb mb : Nat) : Pl := { p with tb := tb, mb := mb, r := fun k => if k = tb then some 1 else if k = mb then some 2 else p.r k }
theorem ImgW.putT (h : ImgW w ib p M) {tb mb : Nat} {t' : List Slt} (hT : TabW w' tb mb t') (h1 : p.r tb = none) (h2 : p.r mb = none)
    (hB : Blk w' ib [.int .i64 (M.B : Int), .pointer (some ⟨tb, 0, none⟩), .pointer (some ⟨p.nb, 0, none⟩), .map (some p.db), p.sv] 74) (hf : Fr [ib] w w') : ImgW w' ib (p.putT tb mb) { M with t := t' } := by
  have k := h.kept (S := fun y => y = 0) hf (fun k hk y hy => by
    rw [List.mem_singleton.1 hk, h.ri] at hy; cases hy; rfl)
  have hne : tb ≠ mb := hT.ne
  have hr : ∀ {k y}, p.r k = some y → (p.putT tb mb).r k = some y := fun {k y} hk => by
    have e1 : k ≠ tb := fun e => by rw [e, h1] at hk; cases hk
    have e2 : k ≠ mb := fun e => by rw [e, h2] at hk; cases hk
    show (if k = tb then some 1 else if k = mb then some 2 else p.r k) = some y
    rw [if_neg e1, if_neg e2]
    exact hk
  refine ⟨hB, hT, k.cnt (by omega) (by omega), k.dat (by omega), fun y c hc => k.byt y c hc (by omega), k.sn (by omega), h.snl, k.snt (by omega), fun y hy => ?_, hr h.ri, ?_, ?_, hr h.rn, fun k hk => hr (h.rr k hk), hr h.rd, fun k hk => hr (h.rs k hk), fun i hi => ⟨hr (h.rst i hi).1, hr (h.rst i hi).2⟩, fun y c hc q hq => hr (h.rb y c hc q hq)⟩
  · by_cases e1 : y = tb
    · rw [e1]; exact hT.lt.1
    · by_cases e2 : y = mb
      · rw [e2]; exact hT.lt.2
      · exact k.low y (by simpa [Pl.putT, e1, e2] using hy)
  · simp [Pl.putT]
  · simp [Pl.putT, hne.symm]
/-- other snapshots -/
def Pl.putS (p : Pl) (sv : Value) (sp : List (Nat × Nat)) (N : Nat → Bool) : Pl := { p with sv := sv, sp := sp, r := fun k => if sv.ownBlock = some k then some 6 else if N k = true then some 7 else p.r k }
theorem ImgW.putS (h : ImgW w ib p M) {sv : Value} {sp : List (Nat × Nat)} {s' : List (By × List Slt)} {N : Nat → Bool} {L : List Nat} (hsn : w'.ownsRow 0 113 2 sv s'.length ((snL s' sp).flatMap snC)) (hl : sp.length = s'.length)
    (hT : ∀ i, i < s'.length → TabW w' (sp.getD i (0, 0)).1 (sp.getD i (0, 0)).2 (s'.getD i zQ).2) (hN : ∀ k, N k = true → (p.r k = none ∨ p.r k = some 7) ∧ k < w'.heap.size) (hsv : ∀ k, sv.ownBlock = some k → (p.r k = none ∨ p.r k = some 6) ∧ N k = false)
    (hr7 : ∀ i, i < s'.length → ((N (sp.getD i (0, 0)).1 = true ∨ p.r (sp.getD i (0, 0)).1 = some 7) ∧ (N (sp.getD i (0, 0)).2 = true ∨ p.r (sp.getD i (0, 0)).2 = some 7)))
    (hB : Blk w' ib [.int .i64 (M.B : Int), .pointer (some ⟨p.tb, 0, none⟩), .pointer (some ⟨p.nb, 0, none⟩), .map (some p.db), sv] 74) (hf : Fr L w w') (hL : ∀ k ∈ L, k = ib ∨ p.r k = some 6 ∨ p.r k = none) : ImgW w' ib (p.putS sv sp N) { M with s := s' } := by
  have k := h.kept (S := fun y => y = 0 ∨ y = 6) hf (fun k hk y hy => by
    rcases hL k hk with rfl | h1 | h1
    · rw [h.ri] at hy; cases hy; exact .inl rfl
    · rw [h1] at hy; cases hy; exact .inr rfl
    · rw [h1] at hy; cases hy)
  have hr : ∀ {k y}, p.r k = some y → y ≠ 6 → y ≠ 7 → (p.putS sv sp N).r k = some y := fun {k y} hk h6 h7 => by
    have e1 : ¬ sv.ownBlock = some k := fun e => by
      rcases (hsv k e).1 with h1 | h1 <;> rw [h1] at hk <;> cases hk
      exact h6 rfl
    have e2 : ¬ N k = true := fun e => by
      rcases (hN k e).1 with h1 | h1 <;> rw [h1] at hk <;> cases hk
      exact h7 rfl
    show (if sv.ownBlock = some k then some 6 else if N k = true then some 7 else p.r k) = some y
    rw [if_neg e1, if_neg e2]
    exact hk
  have h7 : ∀ {k}, (N k = true ∨ p.r k = some 7) → (p.putS sv sp N).r k = some 7 := fun {k} hk => by
    have e1 : ¬ sv.ownBlock = some k := fun e => by
      obtain ⟨h1, h2⟩ := hsv k e
      rcases hk with hk | hk
      · rw [h2] at hk; cases hk
      · rcases h1 with h1 | h1 <;> rw [h1] at hk <;> cases hk
    show (if sv.ownBlock = some k then some 6 else if N k = true then some 7 else p.r k) = some 7
    rw [if_neg e1]
    rcases hk with hk | hk
    · rw [if_pos hk]
    · split
      · rfl
      · exact hk
  refine ⟨hB, k.tab (by omega) (by omega), k.cnt (by omega) (by omega), k.dat (by omega), fun y c hc => k.byt y c hc (by omega), hsn, hl, hT, fun y hy => ?_, hr h.ri (by omega) (by omega), hr h.rt (by omega) (by omega), hr h.rm (by omega) (by omega), hr h.rn (by omega) (by omega),
    fun k hk => hr (h.rr k hk) (by omega) (by omega), hr h.rd (by omega) (by omega), fun k hk => ?_, fun i hi => ⟨h7 (hr7 i hi).1, h7 (hr7 i hi).2⟩, fun y c hc q hq => hr (h.rb y c hc q hq) (by omega) (by omega)⟩
  · by_cases e1 : sv.ownBlock = some y
    · exact (hsn.lt y e1).2
    · by_cases e2 : N y = true
      · exact (hN y e2).2
      · exact k.low y (by simpa [Pl.putS, e1, e2] using hy)
  · have hk' : sv.ownBlock = some k := hk
    show (if sv.ownBlock = some k then some 6 else if N k = true then some 7 else p.r k) = some 6
    rw [if_pos hk']
end
end Go.Proofs.YtilhbjjjmdnjmaaGreat
