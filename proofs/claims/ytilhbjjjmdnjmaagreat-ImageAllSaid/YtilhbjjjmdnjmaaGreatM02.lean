/-
  An image, in plain Lean: snapshots and sizes.
-/
import Derived.Test.YtilhbjjjmdnjmaaGreatM01
import Derived.Test.YtilhbjjjmdnjmaaGreatM00
import Derived.Laws.AppendOwnNone
namespace Go.Proofs.YtilhbjjjmdnjmaaGreat
open Go.RowKit

/-- the slots that are no Holes, rising -/
def eachS (l : List Slt) : List Slt := (listed l).map fun c => l.getD c zS
theorem map_getD (l : List Slt) : (List.range l.length).map (fun c => l.getD c zS) = l := by
  apply List.ext_getElem (by simp)
  intro i h1 h2
  simp only [List.getElem_map, List.getElem_range]
  rw [List.getD_eq_getElem?_getD, List.getElem?_eq_getElem h2]
  rfl
theorem eachS_cnt {l : List Slt} (h : l.length ≤ 256) (k : Nat) : cntT (eachS l) k = cntT l k := by
  unfold eachS listed cntT
  rw [List.countP_map, List.countP_filter]
  have hp : (fun c => (isH k ∘ fun c => l.getD c zS) c && isL l c) = fun c => isH k (l.getD c zS) := by
    funext c
    simp only [Function.comp, isL]
    cases e : isH k (l.getD c zS) with
    | false => rfl
    | true => rw [(isH_iff.1 e).1]; rfl
  rw [hp]
  have h2 : l.countP (isH k) = (List.range l.length).countP fun c => isH k (l.getD c zS) := by
    have := congrArg (List.countP (isH k)) (map_getD l)
    rw [List.countP_map] at this
    exact this.symm
  rw [h2]
  obtain ⟨m, hm⟩ : ∃ m, 256 = l.length + m := ⟨256 - l.length, by omega⟩
  rw [hm, List.range_add, List.countP_append, List.countP_map]
  have : (List.range m).countP ((fun c => isH k (l.getD c zS)) ∘ fun x => l.length + x) = 0 := by
    rw [List.countP_eq_zero]
    intro x _
    simp only [Function.comp]
    rw [getD_outS (by omega)]
    simp [isH, zS]
  rw [this]
  rfl
theorem eachS_mem {l : List Slt} {s : Slt} (h : s ∈ eachS l) (h1 : s.1 = 1) : s ∈ l := by
  unfold eachS at h
  obtain ⟨c, _, rfl⟩ := List.mem_map.1 h
  by_cases hc : c < l.length
  · exact getD_memS hc
  · rw [getD_outS hc] at h1
    simp [zS] at h1
theorem cntT_filter (l : List Slt) (k : Nat) : cntT (l.filter fun s => s.1 != 0) k = cntT l k := by
  unfold cntT
  rw [List.countP_filter]
  congr 1
  funext s
  cases e : isH k s with
  | false => rfl
  | true => rw [(isH_iff.1 e).1]; rfl

theorem con_live {M M' : Img} (hB : M'.B = M.B) (hd : ∀ k, 0 < ng M' k → M'.d k = M.d k) {x : Slt} (hx : x.1 = 1 → 0 < ng M' (hst x)) : conS M' x = conS M x := con_eq hB fun h1 => hd _ (hx h1)
/-! ### whose a cluster is, said anew -/
theorem own_hst (M : Img) (s : Slt) : (ownI M s).1 = s.1 ∧ hst (ownI M s) = hst s := by
  unfold ownI
  split
  · rename_i h; exact ⟨h.symm, rfl⟩
  · exact ⟨rfl, rfl⟩
theorem own_cnt (M : Img) (l : List Slt) (k : Nat) : cntT (l.map (ownI M)) k = cntT l k := by
  unfold cntT
  rw [List.countP_map]
  congr 1
  funext s
  simp only [Function.comp, isH, (own_hst M s).1, (own_hst M s).2]
theorem own_right {M : Img} {s : Slt} (h : rightS s = true) : rightS (ownI M s) = true := by
  unfold ownI
  split
  · rename_i h1
    obtain ⟨a, b, c⟩ := s
    simp only at h1
    subst h1
    simpa [rightS] using h
  · exact h
theorem owns_ok {M : Img} (h : OkJ M) : OkI (ownsI M) := by
  refine ⟨⟨h.B, by simp [ownsI]; exact h.len, h.room, ?_, h.rights, h.lens, ?_, ?_, h.ones, h.gone, h.dat, h.names, h.nodup, h.few⟩, ?_⟩
  · intro s hs
    obtain ⟨x, hx, rfl⟩ := List.mem_map.1 hs
    exact own_right (h.right x hx)
  · intro k
    show ng M k = cntT (M.t.map (ownI M)) k + cntS M.s k
    rw [own_cnt]
    exact h.cnt k
  · intro k
    show cntT (M.t.map (ownI M)) k ≤ 1
    rw [own_cnt]
    exact h.one k
  · intro s hs h1
    obtain ⟨x, hx, rfl⟩ := List.mem_map.1 hs
    rw [(own_hst M x).2]
    rw [(own_hst M x).1] at h1
    unfold ownI
    rw [if_pos h1]
    rfl
theorem own_con (M : Img) (s : Slt) : conS (ownsI M) (ownI M s) = conS M s := by
  unfold conS
  rw [(own_hst M s).1, (own_hst M s).2]
  rfl
/-- the contents of a row of slots -/
def conT (M : Img) (l : List Slt) : List By := l.map (conS M)
theorem owns_conT (M : Img) : conT (ownsI M) (ownsI M).t = conT M M.t := by
  unfold conT
  show (M.t.map (ownI M)).map (conS (ownsI M)) = _
  rw [List.map_map]
  exact List.map_congr_left fun s _ => own_con M s
/-- all kinds -/
def kindT (l : List Slt) : List Int := l.map (·.1)
theorem owns_kind (M : Img) : kindT (ownsI M).t = kindT M.t := by
  unfold kindT
  show (M.t.map (ownI M)).map _ = _
  rw [List.map_map]
  exact List.map_congr_left fun s _ => (own_hst M s).1
theorem conT_eq {M M' : Img} {l : List Slt} (h : ∀ s ∈ l, conS M' s = conS M s) : conT M' l = conT M l := List.map_congr_left h

/-! ### more, and less, by a table -/
theorem each_lt {M : Img} {l : List Slt} (h : ∀ s ∈ l, s.1 = 1 → 0 < ng M (hst s)) : ∀ s ∈ eachS l, s.1 = 1 → hst s < M.n.length := fun s hs h1 => ng_lt (h s (eachS_mem hs h1) h1)

/-- a snapshot -/
def snapI (M : Img) (nm : By) : Img := ownsI { moreL M (eachS M.t) with s := M.s ++ [(nm, M.t)] }
theorem cntS_append (a b : List (By × List Slt)) (k : Nat) : cntS (a ++ b) k = cntS a k + cntS b k := by
  unfold cntS
  rw [List.map_append, List.sum_append]
theorem snapJ {M : Img} (h : OkI M) {nm : By} (hn : okName nm = true) (hno : nm ∉ M.s.map (·.1)) (h8 : M.s.length < 8) : OkJ { moreL M (eachS M.t) with s := M.s ++ [(nm, M.t)] } := by
  have hk := moreL_keep (eachS M.t) M
  have hng : ∀ k, ng (moreL M (eachS M.t)) k = ng M k + cntT M.t k := fun k => by
    rw [moreL_n _ _ (each_lt fun s hs h1 => h.live hs h1), eachS_cnt h.len]
  have hz : Img.z { moreL M (eachS M.t) with s := M.s ++ [(nm, M.t)] } = M.z := by unfold Img.z; rw [hk.1]
  have hpos : ∀ k, 0 < cntT M.t k → 0 < ng M k := fun k hp => by
    obtain ⟨s, hs, h1, rfl⟩ := cntT_pos.1 hp
    exact h.live hs h1
  have ht : Img.t { moreL M (eachS M.t) with s := M.s ++ [(nm, M.t)] } = M.t := hk.2.1
  refine ⟨hk.1 ▸ h.B, by rw [ht]; exact h.len, hk.2.2.2.1 ▸ h.room, by rw [ht]; exact h.right, ?_, ?_, ?_, fun k => by rw [show (Img.t { moreL M (eachS M.t) with s := M.s ++ [(nm, M.t)] }) = M.t from hk.2.1]; exact h.one k, ?_, ?_, ?_, ?_, ?_, ?_⟩
  · intro p hp
    rcases List.mem_append.1 hp with hp | hp
    · exact h.rights p hp
    · rw [List.mem_singleton.1 hp]; exact h.right
  · intro p hp
    rcases List.mem_append.1 hp with hp | hp
    · exact h.lens p hp
    · rw [List.mem_singleton.1 hp]; exact h.len
  · intro k
    show ng (moreL M (eachS M.t)) k = cntT (moreL M (eachS M.t)).t k + cntS (M.s ++ [(nm, M.t)]) k
    rw [hng, hk.2.1, cntS_append, h.cnt]
    unfold refs
    have : cntS [(nm, M.t)] k = cntT M.t k := by simp [cntS]
    omega
  · intro p hp
    rcases List.mem_append.1 hp with hp | hp
    · exact h.ones p hp
    · rw [List.mem_singleton.1 hp]; exact h.one
  · intro k hk0
    have hk0 : ng (moreL M (eachS M.t)) k = 0 := hk0
    rw [hng] at hk0
    show (moreL M (eachS M.t)).d k = none
    rw [hk.2.2.2.2]
    exact h.gone k (by omega)
  · intro k hk0
    have hk0 : 0 < ng (moreL M (eachS M.t)) k := hk0
    rw [hng] at hk0
    rw [hz]
    show ∃ b, (moreL M (eachS M.t)).d k = some b ∧ _
    rw [hk.2.2.2.2]
    refine h.dat k ?_
    have := hpos k
    omega
  · intro p hp
    rcases List.mem_append.1 hp with hp | hp
    · exact h.names p hp
    · rw [List.mem_singleton.1 hp]; exact hn
  · show ((M.s ++ [(nm, M.t)]).map (·.1)).Nodup
    rw [List.map_append, List.nodup_append]
    exact ⟨h.nodup, by simp, fun a ha b hb e => by simp at hb; subst hb; subst e; exact hno ha⟩
  · show (M.s ++ [(nm, M.t)]).length ≤ 8
    rw [List.length_append]
    simp
    omega
theorem snap_ok {M : Img} (h : OkI M) {nm : By} (hn : okName nm = true) (hno : nm ∉ M.s.map (·.1)) (h8 : M.s.length < 8) : OkI (snapI M nm) := owns_ok (snapJ h hn hno h8)
theorem snap_conS (M : Img) (nm : By) (x : Slt) : conS (snapI M nm) x = conS M x := by
  have hk := moreL_keep (eachS M.t) M
  exact con_eq (M := M) (M' := snapI M nm) hk.1 fun _ => congrFun hk.2.2.2.2 _
theorem snap_conT (M : Img) (nm : By) : conT (snapI M nm) (snapI M nm).t = conT M M.t := by
  have hk := moreL_keep (eachS M.t) M
  have h1 := owns_conT { moreL M (eachS M.t) with s := M.s ++ [(nm, M.t)] }
  unfold snapI
  rw [h1]
  show (moreL M (eachS M.t)).t.map _ = M.t.map _
  rw [hk.2.1]
  exact List.map_congr_left fun x _ => con_eq (M := M) (M' := { moreL M (eachS M.t) with s := M.s ++ [(nm, M.t)] }) hk.1 fun _ => congrFun hk.2.2.2.2 _
theorem snap_keep (M : Img) (nm : By) : (snapI M nm).B = M.B ∧ (snapI M nm).s = M.s ++ [(nm, M.t)] ∧ (snapI M nm).n.length = M.n.length ∧ (snapI M nm).t.length = M.t.length := by
  have hk := moreL_keep (eachS M.t) M
  refine ⟨hk.1, rfl, hk.2.2.2.1, ?_⟩
  show ((moreL M (eachS M.t)).t.map _).length = _
  rw [hk.2.1]
  simp

/-- back to one -/
def zQ : By × List Slt := ([], [])
def applyI (M : Img) (k : Nat) : Img := ownsI { lessL (moreL M (eachS (M.s.getD k zQ).2)) (eachS M.t) with t := (M.s.getD k zQ).2 }
section
variable {M : Img} (h : OkI M) {p : By × List Slt} (hp : p ∈ M.s)
include h hp in
theorem cnt_le_snap (k : Nat) : cntT p.2 k ≤ ng M k := by
  have h1 := h.ones p hp k
  by_cases e : 0 < cntT p.2 k
  · obtain ⟨s, hs, h2, rfl⟩ := cntT_pos.1 e
    have := h.lives hp hs h2
    omega
  · omega
include h in
theorem cnt_le_t (k : Nat) : cntT M.t k ≤ ng M k := by
  rw [h.cnt]
  unfold refs
  omega
include h hp in
theorem apply_ng (k : Nat) : ng (lessL (moreL M (eachS p.2)) (eachS M.t)) k = ng M k + cntT p.2 k - cntT M.t k := by
  rw [lessL_n _ _ (fun s hs h1 => by rw [(moreL_keep _ M).2.2.2.1]; exact each_lt (fun s hs h1 => h.live hs h1) s hs h1), moreL_n _ _ (each_lt fun s hs h1 => h.lives hp hs h1), eachS_cnt (h.lens p hp), eachS_cnt h.len]
include h hp in
theorem apply_d (k : Nat) : (lessL (moreL M (eachS p.2)) (eachS M.t)).d k = if 0 < cntT M.t k ∧ ng M k + cntT p.2 k - cntT M.t k = 0 then none else M.d k := by
  have h1 : ∀ k, ng (moreL M (eachS p.2)) k = ng M k + cntT p.2 k := fun k => by rw [moreL_n _ _ (each_lt fun s hs h1 => h.lives hp hs h1), eachS_cnt (h.lens p hp)]
  rw [lessL_d _ _ (fun s hs h1 => by rw [(moreL_keep _ M).2.2.2.1]; exact each_lt (fun s hs h1 => h.live hs h1) s hs h1) (fun k => by
    rw [eachS_cnt h.len, h1]
    have := cnt_le_t h k
    omega), eachS_cnt h.len, h1, (moreL_keep _ M).2.2.2.2]
include h hp in
theorem apply_live {k : Nat} (hk : 0 < ng (lessL (moreL M (eachS p.2)) (eachS M.t)) k) : (lessL (moreL M (eachS p.2)) (eachS M.t)).d k = M.d k := by
  rw [apply_ng h hp] at hk
  rw [apply_d h hp, if_neg (by omega)]
include h hp in
theorem applyJ : OkJ { lessL (moreL M (eachS p.2)) (eachS M.t) with t := p.2 } := by
  have k1 := moreL_keep (eachS p.2) M
  have k2 := lessL_keep (eachS M.t) (moreL M (eachS p.2))
  have hB := k2.1.trans k1.1
  have hS := k2.2.2.1.trans k1.2.2.1
  have hng := apply_ng h hp
  have hd := apply_d h hp
  have hz : Img.z { lessL (moreL M (eachS p.2)) (eachS M.t) with t := p.2 } = M.z := by unfold Img.z; rw [hB]
  refine ⟨hB ▸ h.B, h.lens p hp, by rw [k2.2.2.2, k1.2.2.2.1]; exact h.room, h.rights p hp, hS ▸ h.rights, hS ▸ h.lens, ?_, h.ones p hp, hS ▸ h.ones, ?_, ?_, hS ▸ h.names, hS ▸ h.nodup, hS ▸ h.few⟩
  · intro k
    show ng (lessL (moreL M (eachS p.2)) (eachS M.t)) k = cntT p.2 k + cntS (lessL (moreL M (eachS p.2)) (eachS M.t)).s k
    rw [hng, hS, h.cnt]
    unfold refs
    omega
  · intro k hk
    have hk : ng (lessL (moreL M (eachS p.2)) (eachS M.t)) k = 0 := hk
    rw [hng] at hk
    show (lessL (moreL M (eachS p.2)) (eachS M.t)).d k = none
    rw [hd]
    split
    · rfl
    · rename_i hn
      exact h.gone k (by omega)
  · intro k hk
    have hk : 0 < ng (lessL (moreL M (eachS p.2)) (eachS M.t)) k := hk
    rw [hz]
    show ∃ b, (lessL (moreL M (eachS p.2)) (eachS M.t)).d k = some b ∧ _
    rw [apply_live h hp hk]
    rw [hng] at hk
    refine h.dat k ?_
    have := cnt_le_snap h hp k
    omega
end
theorem getD_memQ {l : List (By × List Slt)} {k : Nat} (hk : k < l.length) : l.getD k zQ ∈ l := by
  rw [List.getD_eq_getElem?_getD, List.getElem?_eq_getElem hk]; exact List.getElem_mem hk
section
variable {M : Img} (h : OkI M) {k : Nat} (hk : k < M.s.length)
include h hk in
theorem apply_ok : OkI (applyI M k) := owns_ok (applyJ h (getD_memQ hk))
theorem apply_keep : (applyI M k).B = M.B ∧ (applyI M k).s = M.s ∧ (applyI M k).n.length = M.n.length ∧ (applyI M k).t.length = (M.s.getD k zQ).2.length ∧ kindT (applyI M k).t = kindT (M.s.getD k zQ).2 := by
  have k1 := moreL_keep (eachS (M.s.getD k zQ).2) M
  have k2 := lessL_keep (eachS M.t) (moreL M (eachS (M.s.getD k zQ).2))
  refine ⟨k2.1.trans k1.1, k2.2.2.1.trans k1.2.2.1, k2.2.2.2.trans k1.2.2.2.1, ?_, owns_kind _⟩
  show ((M.s.getD k zQ).2.map _).length = _
  simp
include h hk in
theorem apply_snap {p : By × List Slt} (hp : p ∈ M.s) : conT (applyI M k) p.2 = conT M p.2 := conT_eq fun x hx => by
  have h' := apply_ok h hk
  refine con_live (M' := applyI M k) apply_keep.1 (fun j hj => apply_live h (getD_memQ hk) hj) fun h1 => h'.lives (by rw [apply_keep.2.1]; exact hp) hx h1
include h hk in
theorem apply_conT : conT (applyI M k) (applyI M k).t = conT M (M.s.getD k zQ).2 := by
  unfold applyI
  rw [owns_conT]
  refine conT_eq fun x hx => ?_
  have hJ := applyJ h (getD_memQ hk)
  exact con_live (M' := { lessL (moreL M (eachS (M.s.getD k zQ).2)) (eachS M.t) with t := (M.s.getD k zQ).2 }) (apply_keep (M := M) (k := k)).1 (fun j hj => apply_live h (getD_memQ hk) hj) fun h1 => hJ.live hx h1
end

/-- one dropped -/
def dropI (M : Img) (k : Nat) : Img := ownsI { lessL M (eachS (M.s.getD k zQ).2) with s := M.s.eraseIdx k }
theorem cntS_erase : ∀ (s : List (By × List Slt)) (k : Nat), k < s.length → ∀ j, cntS (s.eraseIdx k) j + cntT (s.getD k zQ).2 j = cntS s j
  | [], k, hk, _ => absurd hk (by simp)
  | p :: l, 0, _, j => by
    simp only [List.eraseIdx_cons_zero, List.getD_cons_zero, cntS, List.map_cons, List.sum_cons]
    omega
  | p :: l, k + 1, hk, j => by
    have := cntS_erase l k (by simpa using hk) j
    simp only [List.eraseIdx_cons_succ, List.getD_cons_succ, cntS, List.map_cons, List.sum_cons] at *
    omega
section
variable {M : Img} (h : OkI M) {k : Nat} (hk : k < M.s.length)
include h hk in
theorem drop_ng (j : Nat) : ng (lessL M (eachS (M.s.getD k zQ).2)) j = ng M j - cntT (M.s.getD k zQ).2 j := by
  rw [lessL_n _ _ (each_lt fun s hs h1 => h.lives (getD_memQ hk) hs h1), eachS_cnt (h.lens _ (getD_memQ hk))]
include h hk in
theorem drop_d (j : Nat) : (lessL M (eachS (M.s.getD k zQ).2)).d j = if 0 < cntT (M.s.getD k zQ).2 j ∧ ng M j - cntT (M.s.getD k zQ).2 j = 0 then none else M.d j := by
  rw [lessL_d _ _ (each_lt fun s hs h1 => h.lives (getD_memQ hk) hs h1) (fun i => by rw [eachS_cnt (h.lens _ (getD_memQ hk))]; exact cnt_le_snap h (getD_memQ hk) i), eachS_cnt (h.lens _ (getD_memQ hk))]
include h hk in
theorem drop_live {j : Nat} (hj : 0 < ng (lessL M (eachS (M.s.getD k zQ).2)) j) : (lessL M (eachS (M.s.getD k zQ).2)).d j = M.d j := by
  rw [drop_ng h hk] at hj
  rw [drop_d h hk, if_neg (by omega)]
include h hk in
theorem dropJ : OkJ { lessL M (eachS (M.s.getD k zQ).2) with s := M.s.eraseIdx k } := by
  have k1 := lessL_keep (eachS (M.s.getD k zQ).2) M
  have hng := drop_ng h hk
  have hd := drop_d h hk
  have hsub : ∀ p ∈ M.s.eraseIdx k, p ∈ M.s := fun p hp => (List.eraseIdx_sublist M.s k).subset hp
  have hz : Img.z { lessL M (eachS (M.s.getD k zQ).2) with s := M.s.eraseIdx k } = M.z := by unfold Img.z; rw [k1.1]
  refine ⟨k1.1 ▸ h.B, k1.2.1 ▸ h.len, k1.2.2.2 ▸ h.room, k1.2.1 ▸ h.right, fun p hp => h.rights p (hsub p hp), fun p hp => h.lens p (hsub p hp), ?_, fun j => by rw [show (Img.t { lessL M (eachS (M.s.getD k zQ).2) with s := M.s.eraseIdx k }) = M.t from k1.2.1]; exact h.one j, fun p hp => h.ones p (hsub p hp), ?_, ?_, fun p hp => h.names p (hsub p hp), ?_, ?_⟩
  · intro j
    show ng (lessL M (eachS (M.s.getD k zQ).2)) j = cntT (lessL M (eachS (M.s.getD k zQ).2)).t j + cntS (M.s.eraseIdx k) j
    rw [hng, k1.2.1, h.cnt]
    have := cntS_erase M.s k hk j
    unfold refs
    omega
  · intro j hj
    have hj : ng (lessL M (eachS (M.s.getD k zQ).2)) j = 0 := hj
    rw [hng] at hj
    show (lessL M (eachS (M.s.getD k zQ).2)).d j = none
    rw [hd]
    split
    · rfl
    · exact h.gone j (by omega)
  · intro j hj
    have hj : 0 < ng (lessL M (eachS (M.s.getD k zQ).2)) j := hj
    rw [hz]
    show ∃ b, (lessL M (eachS (M.s.getD k zQ).2)).d j = some b ∧ _
    rw [drop_live h hk hj]
    rw [hng] at hj
    exact h.dat j (by omega)
  · show ((M.s.eraseIdx k).map _).Nodup
    exact ((List.eraseIdx_sublist M.s k).map _).nodup h.nodup
  · exact Nat.le_trans (List.eraseIdx_sublist M.s k).length_le h.few
include h hk in
theorem drop_ok : OkI (dropI M k) := owns_ok (dropJ h hk)
theorem drop_keep : (dropI M k).B = M.B ∧ (dropI M k).s = M.s.eraseIdx k ∧ (dropI M k).n.length = M.n.length ∧ (dropI M k).t.length = M.t.length ∧ kindT (dropI M k).t = kindT M.t := by
  have k1 := lessL_keep (eachS (M.s.getD k zQ).2) M
  refine ⟨k1.1, rfl, k1.2.2.2, ?_, ?_⟩
  · show ((lessL M (eachS (M.s.getD k zQ).2)).t.map _).length = _
    rw [k1.2.1]
    simp
  · unfold dropI
    rw [owns_kind]
    show kindT (lessL M (eachS (M.s.getD k zQ).2)).t = _
    rw [k1.2.1]
include h hk in
theorem drop_snap {p : By × List Slt} (hp : p ∈ M.s.eraseIdx k) : conT (dropI M k) p.2 = conT M p.2 := conT_eq fun x hx => by
  have h' := drop_ok h hk
  exact con_live (M' := dropI M k) drop_keep.1 (fun j hj => drop_live h hk hj) fun h1 => h'.lives (by rw [drop_keep.2.1]; exact hp) hx h1
include h hk in
theorem drop_conT : conT (dropI M k) (dropI M k).t = conT M M.t := by
  have k1 := lessL_keep (eachS (M.s.getD k zQ).2) M
  unfold dropI
  rw [owns_conT]
  have hJ := dropJ h hk
  have ht : (Img.t { lessL M (eachS (M.s.getD k zQ).2) with s := M.s.eraseIdx k }) = M.t := k1.2.1
  rw [ht]
  refine conT_eq fun x hx => ?_
  exact con_live (M' := { lessL M (eachS (M.s.getD k zQ).2) with s := M.s.eraseIdx k }) k1.1 (fun j hj => drop_live h hk hj) fun h1 => hJ.live (by rw [ht]; exact hx) h1
end

/-- another size -/
def cutT (l : List Slt) (n : Nat) : List Slt := l.take n ++ List.replicate (n - l.length) zS
def goneT (l : List Slt) (n : Nat) : List Slt := (l.drop n).filter fun s => s.1 != 0
def resizeI (M : Img) (n : Nat) : Img := ownsI (lessL { M with t := cutT M.t n } (goneT M.t n))
theorem cutT_cnt (l : List Slt) (n k : Nat) : cntT (cutT l n) k + cntT (goneT l n) k = cntT l k := by
  unfold cutT goneT
  rw [cntT_append, cntT_filter]
  have h1 : cntT (List.replicate (n - l.length) zS) k = 0 := by
    unfold cntT
    rw [List.countP_replicate, if_neg (by simp [isH, zS])]
  have h2 := cntT_append (l.take n) (l.drop n) k
  rw [List.take_append_drop] at h2
  omega
theorem cutT_mem {l : List Slt} {n : Nat} {s : Slt} (hs : s ∈ cutT l n) : s ∈ l ∨ s = zS := by
  rcases List.mem_append.1 hs with hs | hs
  · exact .inl (List.mem_of_mem_take hs)
  · exact .inr (List.eq_of_mem_replicate hs)
theorem goneT_mem {l : List Slt} {n : Nat} {s : Slt} (hs : s ∈ goneT l n) : s ∈ l := List.mem_of_mem_drop (List.mem_filter.1 hs).1
theorem cutT_len (l : List Slt) (n : Nat) : (cutT l n).length = n := by
  unfold cutT
  simp
  omega
section
variable {M : Img} (h : OkI M) (n : Nat)
include h in
theorem resize_ng (k : Nat) : ng (lessL { M with t := cutT M.t n } (goneT M.t n)) k = ng M k - cntT (goneT M.t n) k :=
  lessL_n (goneT M.t n) { M with t := cutT M.t n } (fun _ hs h1 => ng_lt (M := M) (h.live (goneT_mem hs) h1)) k
include h in
theorem gone_le (k : Nat) : cntT (goneT M.t n) k ≤ ng M k := by
  have := cutT_cnt M.t n k
  have := cnt_le_t h k
  omega
include h in
theorem resize_d (k : Nat) : (lessL { M with t := cutT M.t n } (goneT M.t n)).d k = if 0 < cntT (goneT M.t n) k ∧ ng M k - cntT (goneT M.t n) k = 0 then none else M.d k :=
  lessL_d (goneT M.t n) { M with t := cutT M.t n } (fun _ hs h1 => ng_lt (M := M) (h.live (goneT_mem hs) h1)) (gone_le h n) k
include h in
theorem resize_live {k : Nat} (hk : 0 < ng (lessL { M with t := cutT M.t n } (goneT M.t n)) k) : (lessL { M with t := cutT M.t n } (goneT M.t n)).d k = M.d k := by
  rw [resize_ng h] at hk
  rw [resize_d h, if_neg (by omega)]
theorem resize_t : (lessL { M with t := cutT M.t n } (goneT M.t n)).t = cutT M.t n := (lessL_keep (goneT M.t n) { M with t := cutT M.t n }).2.1
include h in
theorem resizeJ (hn : n ≤ 256) : OkJ (lessL { M with t := cutT M.t n } (goneT M.t n)) := by
  have k1 := lessL_keep (goneT M.t n) { M with t := cutT M.t n }
  have hng := resize_ng h n
  have hd := resize_d h n
  have hc := cutT_cnt M.t n
  have hlv := fun k => resize_live h n (k := k)
  have hz : Img.z (lessL { M with t := cutT M.t n } (goneT M.t n)) = M.z := by unfold Img.z; rw [k1.1]
  have kB := k1.1
  have kt := k1.2.1
  have kS := k1.2.2.1
  have kn := k1.2.2.2
  generalize lessL { M with t := cutT M.t n } (goneT M.t n) = M' at *
  simp only at kB kt kS kn
  refine ⟨by rw [kB]; exact h.B, by rw [kt, cutT_len]; exact hn, by rw [kn]; exact h.room, ?_, by rw [kS]; exact h.rights, by rw [kS]; exact h.lens, ?_, ?_, by rw [kS]; exact h.ones, ?_, ?_, by rw [kS]; exact h.names, by rw [kS]; exact h.nodup, by rw [kS]; exact h.few⟩
  · intro s hs
    rw [kt] at hs
    rcases cutT_mem hs with hs | rfl
    · exact h.right s hs
    · rfl
  · intro k
    have e1 : refs M' k = cntT (cutT M.t n) k + cntS M.s k := by
      unfold refs
      rw [kt, kS]
    rw [hng, e1, h.cnt]
    have := hc k
    unfold refs
    omega
  · intro k
    rw [kt]
    have := h.one k
    have := hc k
    show cntT (cutT M.t n) k ≤ 1
    omega
  · intro k hk
    rw [hng] at hk
    rw [hd]
    split
    · rfl
    · exact h.gone k (by omega)
  · intro k hk
    rw [hz, hlv k hk]
    rw [hng] at hk
    exact h.dat k (by omega)
include h in
theorem resize_ok (hn : n ≤ 256) : OkI (resizeI M n) := owns_ok (resizeJ h n hn)
theorem resize_keep : (resizeI M n).B = M.B ∧ (resizeI M n).s = M.s ∧ (resizeI M n).n.length = M.n.length ∧ (resizeI M n).t.length = n ∧ kindT (resizeI M n).t = kindT (cutT M.t n) := by
  have k1 := lessL_keep (goneT M.t n) { M with t := cutT M.t n }
  refine ⟨k1.1, k1.2.2.1, k1.2.2.2, ?_, ?_⟩
  · show ((lessL { M with t := cutT M.t n } (goneT M.t n)).t.map _).length = _
    rw [k1.2.1, List.length_map]
    exact cutT_len M.t n
  · unfold resizeI
    rw [owns_kind, k1.2.1]
include h in
theorem resize_snap (hn : n ≤ 256) {p : By × List Slt} (hp : p ∈ M.s) : conT (resizeI M n) p.2 = conT M p.2 := conT_eq fun x hx => by
  have h' := resize_ok h n hn
  exact con_live (M' := resizeI M n) (resize_keep n).1 (fun j hj => resize_live h n hj) fun h1 => h'.lives (by rw [(resize_keep n).2.1]; exact hp) hx h1
include h in
theorem resize_conT (hn : n ≤ 256) : conT (resizeI M n) (resizeI M n).t = conT M (cutT M.t n) := by
  unfold resizeI
  rw [owns_conT, resize_t]
  have hJ := resizeJ h n hn
  refine conT_eq fun x hx => ?_
  exact con_live (M' := lessL { M with t := cutT M.t n } (goneT M.t n)) (lessL_keep (goneT M.t n) { M with t := cutT M.t n }).1 (fun j hj => resize_live h n hj) fun h1 => hJ.live (by rw [resize_t]; exact hx) h1
end
end Go.Proofs.YtilhbjjjmdnjmaaGreat

namespace Go.Proofs.YtilhbjjjmdnjmaaGreat
open Go.RowKit

theorem flat_at {α : Type} (f : α → List Value) (n : Nat) (hf : ∀ x, (f x).length = n) : ∀ (l : List α) (i j : Nat), j < n → (l.flatMap f)[i * n + j]? = (l[i]?).bind (fun x => (f x)[j]?)
  | [], i, j, _ => by simp
  | x :: l, 0, j, hj => by
    rw [List.flatMap_cons, List.getElem?_append_left (by rw [hf]; omega)]; simp
  | x :: l, i + 1, j, hj => by
    have e : (i + 1) * n + j = n + (i * n + j) := by rw [Nat.add_mul, Nat.one_mul]; omega
    rw [List.flatMap_cons, List.getElem?_append_right (by rw [hf, e]; omega), hf, e, Nat.add_sub_cancel_left, flat_at f n hf l i j hj]
    simp
/-- v is a slice that reads as the list l, an element's cells being f. -/
def SlF {α : Type} (f : α → List Value) (w : World) (v : Value) (l : List α) : Prop := Sl w v l.length (l.flatMap f)
theorem SlF.le {α : Type} {f : α → List Value} {w : World} {v : Value} {l : List α} (h : SlF f w v l) : l.length ≤ maxLen := Sl.le h
theorem SlF.fr {α : Type} {f : α → List Value} {L : List Nat} {w w' : World} {v : Value} {l : List α} (h : SlF f w v l) (hf : Fr L w w') (hn : ∀ k, v.ownBlock = some k → k ∉ L) : SlF f w' v l := Sl.fr h hf hn
theorem SlF.fr0 {α : Type} {f : α → List Value} {w w' : World} {v : Value} {l : List α} (h : SlF f w v l) (hf : Fr [] w w') : SlF f w' v l := Sl.fr0 h hf
/-- what such a slice is: its length; where it has an element, its address and the element's cells -/
theorem SlF.open {α : Type} {f : α → List Value} {w : World} {v : Value} {l : List α} (h : SlF f w v l) : ∃ a cap, v = .slice a l.length cap ∧ l.length ≤ cap ∧ cap ≤ maxLen ∧
    (∀ (n : Nat), (∀ x, (f x).length = n) → 0 < n → ∀ i x, l[i]? = some x → ∃ b off, a = some ⟨b, off, none⟩ ∧ b < w.heap.size ∧ ∀ j u, (f x)[j]? = some u → w.cell? ⟨b, off + (i * n + j), none⟩ = some u) := by
  obtain ⟨a, cap, rfl, h1, h2, hc⟩ := h
  refine ⟨a, cap, rfl, h1, h2, fun n hn h0 i x hx => ?_⟩
  have hat : ∀ j u, (f x)[j]? = some u → (l.flatMap f)[i * n + j]? = some u := fun j u hu => by
    have hj : j < n := by rw [← hn x]; exact (List.getElem?_eq_some_iff.1 hu).1
    rw [flat_at f n hn l i j hj, hx]
    exact hu
  rcases hc with he | ⟨b, off, rfl, hb, hc⟩
  · exfalso
    have h0' : 0 < (f x).length := by rw [hn x]; exact h0
    have := hat 0 _ (List.getElem?_eq_getElem h0')
    rw [he] at this
    cases this
  · exact ⟨b, off, rfl, hb, fun j u hu => hc _ u (hat j u hu)⟩
abbrev SlS := SlF slotC
theorem slot_one {s : Slt} : ∀ u ∈ slotC s, u.oneCell' = true := by
  intro u hu
  simp at hu
  rcases hu with rfl | rfl | rfl <;> rfl
abbrev SlO := SlF opC
theorem getD_some {α : Type} {l : List α} {i : Nat} (d : α) (h : i < l.length) : l[i]? = some (l.getD i d) := by
  rw [List.getD_eq_getElem?_getD, List.getElem?_eq_getElem h]; rfl
/-- slot i of a slice -/
theorem SlS.at {w : World} {a : Option Addr} {cap n : Nat} {l : List Slt} (h : SlS w (.slice a n cap) l) {i : Nat} (hi : i < l.length) : ∃ b off, a = some ⟨b, off, none⟩ ∧ b < w.heap.size ∧
    w.cell? ⟨b, off + i * 3, none⟩ = some (.int .i64 (l.getD i zS).1) ∧ w.cell? ⟨b, off + i * 3 + 1, none⟩ = some (.int .i64 (l.getD i zS).2.1) ∧ w.cell? ⟨b, off + i * 3 + 2, none⟩ = some (.bool (l.getD i zS).2.2) := by
  obtain ⟨a', cap', hv, _, _, hc⟩ := h.open
  cases hv
  obtain ⟨b, off, rfl, hb, hc⟩ := hc 3 (fun _ => rfl) (by omega) i _ (getD_some zS hi)
  exact ⟨b, off, rfl, hb, hc 0 _ rfl, hc 1 _ rfl, hc 2 _ rfl⟩
def zO : Opr := (0, 0, zS)
theorem SlO.at {w : World} {a : Option Addr} {cap n : Nat} {l : List Opr} (h : SlO w (.slice a n cap) l) {i : Nat} (hi : i < l.length) : ∃ b off, a = some ⟨b, off, none⟩ ∧ b < w.heap.size ∧
    w.cell? ⟨b, off + i * 5, none⟩ = some (.int .i64 (l.getD i zO).1) ∧ w.cell? ⟨b, off + i * 5 + 1, none⟩ = some (.int .i64 (l.getD i zO).2.1) ∧ w.cell? ⟨b, off + i * 5 + 2, none⟩ = some (.int .i64 (l.getD i zO).2.2.1) ∧
    w.cell? ⟨b, off + i * 5 + 3, none⟩ = some (.int .i64 (l.getD i zO).2.2.2.1) ∧ w.cell? ⟨b, off + i * 5 + 4, none⟩ = some (.bool (l.getD i zO).2.2.2.2) := by
  obtain ⟨a', cap', hv, _, _, hc⟩ := h.open
  cases hv
  obtain ⟨b, off, rfl, hb, hc⟩ := hc 5 (fun _ => rfl) (by omega) i _ (getD_some zO hi)
  exact ⟨b, off, rfl, hb, hc 0 _ rfl, hc 1 _ rfl, hc 2 _ rfl, hc 3 _ rfl, hc 4 _ rfl⟩
/-- the cells of such a slice, as an append reads them -/
theorem SlF.news {α : Type} {f : α → List Value} {w : World} {a : Option Addr} {n cap : Nat} {l : List α} (h : SlF f w (.slice a n cap) l) (hne : l.flatMap f ≠ []) :
    ∃ b off, a = some ⟨b, off, none⟩ ∧ b < w.heap.size ∧ ∀ j u, (l.flatMap f)[j]? = some u → w.cell? ((⟨b, off, none⟩ : Addr).add j) = some u := by
  obtain ⟨a', cap', hv, _, _, hc⟩ := h
  cases hv
  rcases hc with he | ⟨b, off, rfl, hb, hc⟩
  · exact absurd he hne
  · refine ⟨b, off, rfl, hb, fun j u hu => ?_⟩
    have hadd : (⟨b, off, none⟩ : Addr).add j = ⟨b, off + j, none⟩ := by unfold Addr.add; split <;> simp_all
    rw [hadd]
    exact hc j u hu
theorem news_fr {L : List Nat} {w w' : World} {b off : Nat} {xs : List Value} (h : ∀ j u, xs[j]? = some u → w.cell? ((⟨b, off, none⟩ : Addr).add j) = some u) (hb : b < w.heap.size) (hf : Fr L w w') (hn : b ∉ L) :
    ∀ j u, xs[j]? = some u → w'.cell? ((⟨b, off, none⟩ : Addr).add j) = some u := by
  intro j u hu
  have hadd : (⟨b, off, none⟩ : Addr).add j = ⟨b, off + j, none⟩ := by unfold Addr.add; split <;> simp_all
  have := h j u hu
  rw [hadd] at this ⊢
  exact (World.cell?_of_block (hf.block b hb hn)).trans this
theorem flat_one {α : Type} {f : α → List Value} (hf : ∀ x, ∀ u ∈ f x, u.oneCell' = true) (l : List α) : ∀ u ∈ l.flatMap f, u.oneCell' = true := by
  intro u hu
  obtain ⟨x, _, hx⟩ := List.mem_flatMap.1 hu
  exact hf x u hx
theorem owns_succ {w : World} {base : Nat} {e : TypeId} {size n : Nat} {v : Value} {xs : List Value} (h : w.ownsRow base e size v n xs) (hn : 0 < n) : ∃ g cap, v = .slice (some ⟨g, 0, none⟩) n cap ∧ base ≤ g ∧ n ≤ cap := by
  rcases h.2 with ⟨_, h0⟩ | ⟨g, cap, cur, hv, hb, _, hc, _⟩
  · omega
  · exact ⟨g, cap, hv, hb, hc⟩
/-- a slice that owns its cells reads so -/
theorem SlF.of_owns {α : Type} {f : α → List Value} {w : World} {base : Nat} {e : TypeId} {size : Nat} {v : Value} {l : List α} (h : w.ownsRow base e size v l.length (l.flatMap f)) : SlF f w v l := Sl.of_owns h
/-- one element in a block of its own -/
theorem SlF.one {α : Type} {f : α → List Value} {w : World} {b : Nat} {x : α} {t : TypeId} (h : Blk w b (f x) t) : SlF f w (.slice (some ⟨b, 0, none⟩) 1 1) [x] := by
  refine ⟨_, 1, rfl, Nat.le_refl _, by decide, .inr ⟨b, 0, rfl, h.lt, fun j u hu => ?_⟩⟩
  rw [Nat.zero_add, h.cell j]
  simpa using hu
/-! ### a slot in a slice that is owned -/
theorem flat3_take (g : List Slt) : ∀ i, (g.flatMap slotC).take (i * 3) = (g.take i).flatMap slotC := by
  induction g with
  | nil => intro i; simp
  | cons s g ih =>
    intro i
    cases i with
    | zero => simp
    | succ i =>
      rw [List.flatMap_cons, List.take_succ_cons, List.flatMap_cons, ← ih i]
      have : (i + 1) * 3 = (slotC s).length + i * 3 := by simp; omega
      rw [this, List.take_length_add_append]
theorem flat3_drop (g : List Slt) : ∀ i, (g.flatMap slotC).drop (i * 3) = (g.drop i).flatMap slotC := by
  induction g with
  | nil => intro i; simp
  | cons s g ih =>
    intro i
    cases i with
    | zero => simp
    | succ i =>
      rw [List.flatMap_cons, List.drop_succ_cons, ← ih i]
      have : (i + 1) * 3 = (slotC s).length + i * 3 := by simp; omega
      rw [this, List.drop_length_add_append]
theorem flat3_length (g : List Slt) : (g.flatMap slotC).length = g.length * 3 := by
  induction g with
  | nil => rfl
  | cons s g ih => simp [ih]; omega
theorem flat3_set (g : List Slt) (i : Nat) (hi : i < g.length) (s : Slt) :
    (g.set i s).flatMap slotC = (((g.flatMap slotC).set (i * 3) (.int .i64 s.1)).set (i * 3 + 1) (.int .i64 s.2.1)).set (i * 3 + 2) (.bool s.2.2) := by
  have hl := flat3_length g
  apply List.ext_getElem?
  intro k
  obtain ⟨q, j, hj, rfl⟩ : ∃ q j, j < 3 ∧ k = q * 3 + j := ⟨k / 3, k % 3, Nat.mod_lt _ (by omega), by omega⟩
  rw [flat_at slotC 3 (fun _ => rfl) _ q j hj]
  simp only [List.getElem?_set, List.length_set, hl, flat_at slotC 3 (fun _ => rfl) _ q j hj]
  by_cases hq : i = q
  · subst hq
    match j, hj with
    | 0, _ => simp [hi]
    | 1, _ => simp [hi]; omega
    | 2, _ => simp [hi]; omega
  · rw [if_neg hq, if_neg (by omega), if_neg (by omega), if_neg (by omega)]
section
variable {w : World} {base g n cap : Nat} {e : TypeId} {l : List Slt}
theorem owns_at {size : Nat} {xs : List Value} (h : w.ownsRow base e size (.slice (some ⟨g, 0, none⟩) n cap) n xs) {j : Nat} {u : Value} (hu : xs[j]? = some u) : w.cell? ⟨g, j, none⟩ = some u ∧ w.frozen? ⟨g, j, none⟩ = false := by
  rcases h.2 with ⟨h1, _⟩ | ⟨g', cap', cur, hv, _, hg, _, _, _, ht⟩
  · cases h1
  · cases hv
    constructor
    · rw [cell_of_row w g j _ e _ hg]
      rw [← ht, List.getElem?_take] at hu
      split at hu
      · simpa using hu
      · cases hu
    · exact frozen_of_row w g j _ e hg
/-- a store into it -/
theorem owns_put {size : Nat} {xs : List Value} (h : w.ownsRow base e size (.slice (some ⟨g, 0, none⟩) n cap) n xs) (j : Nat) (u : Value) : (w.setCell ⟨g, j, none⟩ u).ownsRow base e size (.slice (some ⟨g, 0, none⟩) n cap) n (xs.set j u) := by
  refine ⟨by rw [List.length_set]; exact h.1, ?_⟩
  rcases h.2 with ⟨h1, _⟩ | ⟨g', cap', cur, hv, hb, hg, hn, hm, hs, ht⟩
  · cases h1
  · cases hv
    refine .inr ⟨g, cap, cur.setIfInBounds j u, rfl, hb, heap_setCell_same w g j cur e u hg, hn, hm, by simpa using hs, ?_⟩
    rw [Array.toList_setIfInBounds, List.take_set, ht]
theorem owns_put3 (h : w.ownsRow base e 3 (.slice (some ⟨g, 0, none⟩) n cap) n (l.flatMap slotC)) (hl : l.length = n) (i : Nat) (hi : i < n) (s : Slt) :
    (((w.setCell ⟨g, i * 3, none⟩ (.int .i64 s.1)).setCell ⟨g, i * 3 + 1, none⟩ (.int .i64 s.2.1)).setCell ⟨g, i * 3 + 2, none⟩ (.bool s.2.2)).ownsRow base e 3 (.slice (some ⟨g, 0, none⟩) n cap) n ((l.set i s).flatMap slotC) := by
  rw [flat3_set l i (by omega) s]
  exact owns_put (owns_put (owns_put h _ _) _ _) _ _
/-- its cells, before a store -/
theorem owns_at3 (h : w.ownsRow base e 3 (.slice (some ⟨g, 0, none⟩) n cap) n (l.flatMap slotC)) {i : Nat} (hi : i < l.length) :
    (w.cell? ⟨g, i * 3, none⟩ = some (.int .i64 (l.getD i zS).1) ∧ w.cell? ⟨g, i * 3 + 1, none⟩ = some (.int .i64 (l.getD i zS).2.1) ∧ w.cell? ⟨g, i * 3 + 2, none⟩ = some (.bool (l.getD i zS).2.2)) ∧ ∀ o, w.frozen? ⟨g, o, none⟩ = false := by
  have hat : ∀ j u, j < 3 → (slotC (l.getD i zS))[j]? = some u → (l.flatMap slotC)[i * 3 + j]? = some u := fun j u hj hu => by
    rw [flat_at slotC 3 (fun _ => rfl) l i j hj, getD_some zS hi]; exact hu
  refine ⟨⟨(owns_at h (hat 0 _ (by omega) rfl)).1, (owns_at h (hat 1 _ (by omega) rfl)).1, (owns_at h (hat 2 _ (by omega) rfl)).1⟩, fun o => ?_⟩
  rcases h.2 with ⟨h1, _⟩ | ⟨g', cap', cur, hv, _, hg, _⟩
  · cases h1
  · cases hv
    exact frozen_of_row w g o _ e hg
end
end Go.Proofs.YtilhbjjjmdnjmaaGreat

namespace Go.Proofs.YtilhbjjjmdnjmaaGreat
open Go.RowKit

abbrev boolC (b : Bool) : List Value := [.bool b]
abbrev SlB := SlF boolC
theorem bool_one {b : Bool} : ∀ u ∈ boolC b, u.oneCell' = true := by
  intro u hu
  simp at hu
  subst hu
  rfl
theorem flatB_length (l : List Bool) : (l.flatMap boolC).length = l.length := by induction l <;> simp_all
theorem flatB_at (l : List Bool) (i : Nat) : (l.flatMap boolC)[i]? = (l[i]?).map Value.bool := by
  have := flat_at boolC 1 (fun _ => rfl) l i 0 (by omega)
  simp only [Nat.mul_one, Nat.add_zero] at this
  rw [this]
  cases l[i]? <;> rfl
theorem flatB_set (l : List Bool) (i : Nat) (b : Bool) : (l.set i b).flatMap boolC = (l.flatMap boolC).set i (.bool b) := by
  apply List.ext_getElem?
  intro k
  rw [flatB_at, List.getElem?_set, List.getElem?_set, flatB_length, flatB_at]
  by_cases h : i = k
  · subst h
    simp only [if_true]
    split <;> rfl
  · rw [if_neg h, if_neg h]
/-- truth i of a row -/
theorem SlB.at {w : World} {a : Option Addr} {cap n : Nat} {l : List Bool} (h : SlB w (.slice a n cap) l) {i : Nat} (hi : i < l.length) : ∃ b off, a = some ⟨b, off, none⟩ ∧ b < w.heap.size ∧
    w.cell? ⟨b, off + i, none⟩ = some (.bool (l.getD i false)) := by
  obtain ⟨a', cap', hv, _, _, hc⟩ := h.open
  cases hv
  obtain ⟨b, off, rfl, hb, hc⟩ := hc 1 (fun _ => rfl) (by omega) i _ (getD_some false hi)
  have := hc 0 _ rfl
  rw [Nat.mul_one, Nat.add_zero] at this
  exact ⟨b, off, rfl, hb, this⟩
abbrev Op3 := Int × Int × Int
abbrev op3C (o : Op3) : List Value := [.int .i64 o.1, .int .i64 o.2.1, .int .i64 o.2.2]
abbrev SlP := SlF op3C
def wf3 (o : Op3) : Prop := (-9223372036854775808 ≤ o.1 ∧ o.1 ≤ 9223372036854775807) ∧ (-9223372036854775808 ≤ o.2.1 ∧ o.2.1 ≤ 9223372036854775807) ∧ (-9223372036854775808 ≤ o.2.2 ∧ o.2.2 ≤ 9223372036854775807)
def z3 : Op3 := (0, 0, 0)
theorem SlP.at {w : World} {a : Option Addr} {cap n : Nat} {l : List Op3} (h : SlP w (.slice a n cap) l) {i : Nat} (hi : i < l.length) : ∃ b off, a = some ⟨b, off, none⟩ ∧ b < w.heap.size ∧
    w.cell? ⟨b, off + i * 3, none⟩ = some (.int .i64 (l.getD i z3).1) ∧ w.cell? ⟨b, off + i * 3 + 1, none⟩ = some (.int .i64 (l.getD i z3).2.1) ∧ w.cell? ⟨b, off + i * 3 + 2, none⟩ = some (.int .i64 (l.getD i z3).2.2) := by
  obtain ⟨a', cap', hv, _, _, hc⟩ := h.open
  cases hv
  obtain ⟨b, off, rfl, hb, hc⟩ := hc 3 (fun _ => rfl) (by omega) i _ (getD_some z3 hi)
  exact ⟨b, off, rfl, hb, hc 0 _ rfl, hc 1 _ rfl, hc 2 _ rfl⟩
/-- a slice without an address has no room -/
def okV (v : Value) : Prop := ∀ n cap, v = .slice none n cap → cap = 0
theorem okV.of_owns {w : World} {base : Nat} {e : TypeId} {size : Nat} {v : Value} {n : Nat} {xs : List Value} (h : w.ownsRow base e size v n xs) : okV v := by
  intro m cap hv
  rcases h.2 with ⟨h1, _⟩ | ⟨g, cap', cur, h1, _⟩
  · rw [h1] at hv; cases hv; rfl
  · rw [h1] at hv; cases hv
/-- 'out = append(out, l...)', out the call's own slice -/
theorem wpList_append_sl {P : Program} (T E : TypeId) (z : Value) (size bytes : Nat) (ht : P.underlying T = some (.slice E)) (hinfo : (P.info? E).map (fun i => (i.zero, i.size, i.bytes)) = some (some z, size, bytes))
    (hzs : z.cells.size = size) (hsz : 0 < size) (hby : bytes ≤ 4096) {ops : Array Oper} {rest : List Oper} {o : Oper} {a : Act} {Q : Exit → Act → World → Prop} {w : World} (hgd : o.guard = none) (s x : Operand)
    (ho : o.op = .call { callee := .builtin .append, args := #[s, x], argTypes := #[T, T] }) (base : Nat) (v : Value) (n : Nat) (xs : List Value) (hs : a.eval s = v) (hown : w.ownsRow base E size v n xs)
    (u : Value) (m : Nat) (news : List Value) (hu : Sl w u m news) (hok : okV u) (hl : news.length = m * size) (h1 : ∀ y ∈ news, y.oneCell' = true) (hx : a.eval x = u) (hn : n ≤ 4294967296) (hm : m ≤ 4294967296) (hbase : base ≤ w.heap.size)
    (h : ∀ v' w', w'.ownsRow base E size v' (n + m) (xs ++ news) → w.grownBy w' v.ownBlock → wpList P ops Q rest (a.put o.dst v') w') : wpList P ops Q (o :: rest) a w := by
  obtain ⟨i0, hi, hz0, hz1, hz2⟩ := info_parts hinfo
  obtain ⟨ad, cap, rfl, hmc, hcm, hc⟩ := hu
  cases ad with
  | none =>
    have hcap := hok _ _ rfl
    subst hcap
    have hm0 : m = 0 := by omega
    subst hm0
    have hnews : news = [] := List.eq_nil_of_length_eq_zero (by rw [hl, Nat.zero_mul])
    subst hnews
    refine wpList_append_own_none hgd s x T ho base E i0 size ht hi v n xs hs hown hx (h v w (by rw [List.append_nil]; exact hown) ⟨rfl, rfl, rfl, Nat.le_refl _, fun _ _ _ => rfl⟩)
  | some ad =>
    refine wpList_append_own w hgd s x T ho base E i0 z size bytes ht hi hz0 hz1 hz2 hzs hsz v n xs hs hown ad m cap news hx hl (fun j y hy => ?_) h1 (by unfold maxLen; omega) ?_ hbase (fun v' w' g1 g2 _ => h v' w' g1 g2)
    · rcases hc with he | ⟨b, off, hab, hb, hc⟩
      · rw [he] at hy; cases hy
      · cases hab
        have hadd : (⟨b, off, none⟩ : Addr).add j = ⟨b, off + j, none⟩ := by unfold Addr.add; split <;> simp_all
        rw [hadd]
        exact hc j y hy
    · have : (n + m) * bytes ≤ 8589934592 * 4096 := Nat.mul_le_mul (by omega) hby
      omega
end Go.Proofs.YtilhbjjjmdnjmaaGreat

namespace Go.Proofs.YtilhbjjjmdnjmaaGreat
open Go.RowKit

abbrev intC (n : Int) : List Value := [.int .i64 n]
abbrev SlI := SlF intC
theorem SlI.at {w : World} {a : Option Addr} {cap n : Nat} {l : List Int} (h : SlI w (.slice a n cap) l) {i : Nat} (hi : i < l.length) : ∃ b off, a = some ⟨b, off, none⟩ ∧ b < w.heap.size ∧
    w.cell? ⟨b, off + i, none⟩ = some (.int .i64 (l.getD i 0)) := by
  obtain ⟨a', cap', hv, _, _, hc⟩ := h.open
  cases hv
  obtain ⟨b, off, rfl, hb, hc⟩ := hc 1 (fun _ => rfl) (by omega) i _ (getD_some 0 hi)
  have := hc 0 _ rfl
  rw [Nat.mul_one, Nat.add_zero] at this
  exact ⟨b, off, rfl, hb, this⟩
theorem int_one {n : Int} : ∀ u ∈ intC n, u.oneCell' = true := by
  intro u hu
  simp at hu
  subst hu
  rfl
end Go.Proofs.YtilhbjjjmdnjmaaGreat
