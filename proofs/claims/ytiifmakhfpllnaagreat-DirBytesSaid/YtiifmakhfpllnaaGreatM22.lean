/-
  A directory: what it holds, in plain Lean, and how it lies in memory.
-/
import Derived.Test.YtiifmakhfpllnaaGreatM08
import Derived.Test.YtiifmakhfpllnaaGreatM00
import Derived.Test.YtiifmakhfpllnaaGreatM16
import Derived.StringKeys
import Derived.Maps.Keyed
namespace Go.Proofs.YtiifmakhfpllnaaGreat
open Go.RowKit Go.Maps

/-! ### in plain Lean -/
/-- a bitmap, and how it stands -/
structure Ent where
  name : List UInt8
  on : Bool
  use : Bool
  S : Nat
  g : Nat
  l : List Bool
/-- and where it lies -/
structure Cel where
  x : Ent
  eb : Nat
  tb : Nat
  mb : Nat
def findE (E : List Ent) (s : List UInt8) : Option Ent := E.find? fun x => decide (x.name = s)
def findC (L : List Cel) (s : List UInt8) : Option Cel := L.find? fun c => decide (c.x.name = s)
theorem findC_E (L : List Cel) (s : List UInt8) : findE (L.map (·.x)) s = (findC L s).map (·.x) := by
  unfold findE findC
  rw [List.find?_map]
  rfl
theorem findC_mem {L : List Cel} {s : List UInt8} {c : Cel} (h : findC L s = some c) : c ∈ L ∧ c.x.name = s := ⟨List.mem_of_find?_eq_some h, by simpa using List.find?_some h⟩
theorem findC_none {L : List Cel} {s : List UInt8} : findC L s = none ↔ ∀ c ∈ L, c.x.name ≠ s := by
  unfold findC
  rw [List.find?_eq_none]
  simp
/-- rising names -/
def Rising (L : List Cel) : Prop := L.Pairwise fun a b => a.x.name < b.x.name
theorem Rising.inj {L : List Cel} (h : Rising L) : ∀ {a b : Cel}, a ∈ L → b ∈ L → a.x.name = b.x.name → a = b := by
  unfold Rising at h
  induction h with
  | nil => intro a b ha; cases ha
  | cons h1 _ ih =>
    intro a b ha hb he
    rcases List.mem_cons.1 ha with rfl | ha' <;> rcases List.mem_cons.1 hb with rfl | hb'
    · rfl
    · have := h1 _ hb'; rw [he] at this; exact absurd this (List.lt_irrefl _)
    · have := h1 _ ha'; rw [he] at this; exact absurd this (List.lt_irrefl _)
    · exact ih ha' hb' he
theorem find_rising {L : List Cel} (h : Rising L) {c : Cel} (hc : c ∈ L) : findC L c.x.name = some c := by
  cases hf : findC L c.x.name with
  | none => exact absurd rfl (findC_none.1 hf c hc)
  | some d =>
    obtain ⟨h1, h2⟩ := findC_mem hf
    rw [h.inj h1 hc h2]
/-- one more -/
def insE (e : Ent) : List Ent → List Ent
  | [] => [e]
  | d :: l => if e.name < d.name then e :: d :: l else d :: insE e l
def insC (c : Cel) : List Cel → List Cel
  | [] => [c]
  | d :: l => if c.x.name < d.x.name then c :: d :: l else d :: insC c l
theorem insC_E (c : Cel) : ∀ L : List Cel, (insC c L).map (·.x) = insE c.x (L.map (·.x))
  | [] => rfl
  | d :: l => by
    simp only [insC, insE, List.map_cons]
    split
    · rfl
    · rw [List.map_cons, insC_E c l]
theorem insC_perm (c : Cel) : ∀ L : List Cel, (insC c L).Perm (c :: L)
  | [] => List.Perm.refl _
  | d :: l => by
    simp only [insC]
    split
    · exact List.Perm.refl _
    · exact ((insC_perm c l).cons d).trans (List.Perm.swap ..)
theorem mem_insC {c d : Cel} {L : List Cel} : d ∈ insC c L ↔ d = c ∨ d ∈ L := by rw [(insC_perm c L).mem_iff, List.mem_cons]
theorem insC_len (c : Cel) (L : List Cel) : (insC c L).length = L.length + 1 := (insC_perm c L).length_eq
theorem not_lt_lt {a b : List UInt8} (h : ¬ a < b) (hne : a ≠ b) : b < a := by
  rcases List.le_iff_lt_or_eq.1 (List.not_lt.1 h) with h | h
  · exact h
  · exact absurd h.symm hne
theorem insC_rising (c : Cel) : ∀ {L : List Cel}, Rising L → (∀ d ∈ L, d.x.name ≠ c.x.name) → Rising (insC c L)
  | [], _, _ => List.pairwise_singleton _ _
  | d :: l, h, hne => by
    simp only [insC]
    have h' := List.pairwise_cons.1 h
    split
    · rename_i hlt
      refine List.pairwise_cons.2 ⟨fun x hx => ?_, h⟩
      rcases List.mem_cons.1 hx with rfl | hx
      · exact hlt
      · exact List.lt_trans hlt (h'.1 x hx)
    · rename_i hlt
      refine List.pairwise_cons.2 ⟨fun x hx => ?_, insC_rising c h'.2 fun x hx => hne x (List.mem_cons_of_mem _ hx)⟩
      rcases mem_insC.1 hx with rfl | hx
      · exact not_lt_lt hlt (hne d List.mem_cons_self).symm
      · exact h'.1 x hx
theorem find_insC {c : Cel} {L : List Cel} (h : Rising L) (hn : findC L c.x.name = none) (s : List UInt8) : findC (insC c L) s = if s = c.x.name then some c else findC L s := by
  have hr : Rising (insC c L) := insC_rising c h (findC_none.1 hn)
  split
  · rename_i e
    subst e
    exact find_rising hr (mem_insC.2 (.inl rfl))
  · rename_i e
    cases hf : findC L s with
    | none =>
      refine findC_none.2 fun d hd => ?_
      rcases mem_insC.1 hd with rfl | hd
      · exact fun h => e h.symm
      · exact findC_none.1 hf d hd
    | some d =>
      obtain ⟨h1, h2⟩ := findC_mem hf
      have := find_rising hr (mem_insC.2 (.inr h1))
      rwa [h2] at this
/-- one less -/
def rmE (E : List Ent) (s : List UInt8) : List Ent := E.filter fun d => decide (d.name ≠ s)
def rmC (L : List Cel) (s : List UInt8) : List Cel := L.filter fun d => decide (d.x.name ≠ s)
theorem rmC_E (L : List Cel) (s : List UInt8) : (rmC L s).map (·.x) = rmE (L.map (·.x)) s := by
  unfold rmC rmE
  rw [List.filter_map]
  rfl
theorem find_rmC {L : List Cel} (h : Rising L) (s t : List UInt8) : findC (rmC L s) t = if t = s then none else findC L t := by
  have hr : Rising (rmC L s) := h.sublist List.filter_sublist
  split
  · rename_i e
    subst e
    refine findC_none.2 fun c hc => ?_
    have := List.mem_filter.1 hc
    simpa using this.2
  · rename_i e
    cases hf : findC L t with
    | none => exact findC_none.2 fun c hc => findC_none.1 hf c (List.mem_filter.1 hc).1
    | some d =>
      obtain ⟨h1, h2⟩ := findC_mem hf
      have := find_rising hr (c := d) (List.mem_filter.2 ⟨h1, by simp [h2, e]⟩)
      rwa [h2] at this
/-- another one in its place -/
def Cel.on (c : Cel) (f : Ent → Ent) : Cel := { c with x := f c.x }
def chE (E : List Ent) (p : List UInt8 → Bool) (f : Ent → Ent) : List Ent := E.map fun d => if p d.name then f d else d
def chC (L : List Cel) (p : List UInt8 → Bool) (f : Ent → Ent) : List Cel := L.map fun d => if p d.x.name then d.on f else d
theorem chC_E (L : List Cel) (p : List UInt8 → Bool) (f : Ent → Ent) : (chC L p f).map (·.x) = chE (L.map (·.x)) p f := by
  unfold chC chE
  rw [List.map_map, List.map_map]
  refine List.map_congr_left fun d _ => ?_
  simp only [Function.comp]
  split <;> rfl
theorem mem_chC {L : List Cel} {p : List UInt8 → Bool} {f : Ent → Ent} {c : Cel} : c ∈ chC L p f ↔ ∃ d ∈ L, c = if p d.x.name then d.on f else d := by
  unfold chC
  rw [List.mem_map]
  exact ⟨fun ⟨d, h, e⟩ => ⟨d, h, e.symm⟩, fun ⟨d, h, e⟩ => ⟨d, h, e.symm⟩⟩
theorem chC_name {p : List UInt8 → Bool} {f : Ent → Ent} (hf : ∀ x, (f x).name = x.name) (d : Cel) : (if p d.x.name then d.on f else d).x.name = d.x.name := by split <;> simp [Cel.on, hf]
theorem chC_eb {p : List UInt8 → Bool} {f : Ent → Ent} (d : Cel) : (if p d.x.name then d.on f else d).eb = d.eb ∧ (if p d.x.name then d.on f else d).tb = d.tb ∧ (if p d.x.name then d.on f else d).mb = d.mb := by split <;> exact ⟨rfl, rfl, rfl⟩
theorem chC_rising {L : List Cel} (h : Rising L) {p : List UInt8 → Bool} {f : Ent → Ent} (hf : ∀ x, (f x).name = x.name) : Rising (chC L p f) := by
  unfold Rising chC
  rw [List.pairwise_map]
  refine List.Pairwise.imp ?_ h
  intro a b hab
  rw [chC_name hf, chC_name hf]
  exact hab
theorem find_chC {L : List Cel} {p : List UInt8 → Bool} {f : Ent → Ent} (hf : ∀ x, (f x).name = x.name) (s : List UInt8) : findC (chC L p f) s = (findC L s).map fun d => if p d.x.name then d.on f else d := by
  unfold findC chC
  rw [List.find?_map]
  congr 1
  congr 1
  funext d
  simp only [Function.comp]
  rw [chC_name hf]
theorem chC_len (L : List Cel) (p : List UInt8 → Bool) (f : Ent → Ent) : (chC L p f).length = L.length := by simp [chC]

/-! ### in memory -/
def Cel.ptr (c : Cel) : Value := .pointer (some ⟨c.eb, 0, none⟩)
def dirM (L : List Cel) : Value → Option Value
  | .string s => (findC L s.data.toList).map Cel.ptr
  | _ => none
theorem dirM_str (L : List Cel) (s : List UInt8) : dirM L (strL s) = (findC L s).map Cel.ptr := rfl
theorem dirM_some {L : List Cel} {k v : Value} (h : dirM L k = some v) : ∃ c ∈ L, k = strL c.x.name ∧ v = c.ptr := by
  cases k with
  | string s =>
    unfold dirM at h
    obtain ⟨c, hc, rfl⟩ := Option.map_eq_some_iff.1 h
    obtain ⟨h1, h2⟩ := findC_mem hc
    exact ⟨c, h1, by rw [h2, str_eq], rfl⟩
  | _ => cases h
theorem dirM_ext {m : Value → Option Value} {L : List Cel} (h1 : ∀ k v, m k = some v → ∃ s, k = strL s) (h2 : ∀ s, m (strL s) = (findC L s).map Cel.ptr) : m = dirM L := by
  funext k
  cases k with
  | string s => rw [str_eq, h2, dirM_str]
  | _ =>
    cases h : m _ with
    | none => rfl
    | some v =>
      obtain ⟨s, hs⟩ := h1 _ _ h
      cases hs
theorem upd_str {m : Value → Option Value} {v : Option Value} (k s : List UInt8) : upd m (strL k) v (strL s) = if s = k then v else m (strL s) := by
  split
  · rename_i h; subst h; exact upd_same ..
  · rename_i h; exact upd_other _ _ fun e => h (strL_inj e)
theorem upd_strs {m : Value → Option Value} (h : ∀ k v, m k = some v → ∃ s, k = strL s) (t : List UInt8) (u : Option Value) : ∀ k v, upd m (strL t) u k = some v → ∃ s, k = strL s := by
  intro k v hk
  by_cases e : k = strL t
  · exact ⟨t, e⟩
  · rw [upd_other _ _ e] at hk
    exact h k v hk
theorem dirM_strs (L : List Cel) : ∀ k v, dirM L k = some v → ∃ s, k = strL s := fun k v h => by
  obtain ⟨c, _, h1, _⟩ := dirM_some h
  exact ⟨_, h1⟩
theorem dirM_ins {L : List Cel} {c : Cel} (h : Rising L) (hn : findC L c.x.name = none) : upd (dirM L) (strL c.x.name) (some c.ptr) = dirM (insC c L) :=
  dirM_ext (upd_strs (dirM_strs L) _ _) fun s => by
    rw [upd_str, find_insC h hn, dirM_str]
    split <;> rfl
theorem dirM_rm {L : List Cel} (h : Rising L) (s : List UInt8) : upd (dirM L) (strL s) none = dirM (rmC L s) :=
  dirM_ext (upd_strs (dirM_strs L) _ _) fun t => by
    rw [upd_str, find_rmC h, dirM_str]
    split <;> rfl
theorem dirM_ch {L : List Cel} {p : List UInt8 → Bool} {f : Ent → Ent} (hf : ∀ x, (f x).name = x.name) : dirM L = dirM (chC L p f) :=
  dirM_ext (dirM_strs L) fun t => by
    rw [find_chC hf, dirM_str, Option.map_map]
    congr 1
    funext d
    simp only [Function.comp, Cel.ptr]
    rw [(chC_eb d).1]

def Cel.feet (c : Cel) : List Nat := [c.eb, c.tb, c.mb]
def feet (L : List Cel) : List Nat := L.flatMap Cel.feet
def homes (db mb : Nat) (L : List Cel) : List Nat := db :: mb :: feet L
theorem mem_feet {L : List Cel} {k : Nat} : k ∈ feet L ↔ ∃ c ∈ L, k ∈ c.feet := List.mem_flatMap
structure EntW (w : World) (c : Cel) : Prop where
  blk : Blk w c.eb [strL c.x.name, .bool c.x.on, .bool c.x.use, .pointer (some ⟨c.tb, 0, none⟩)] 56
  bits : BitW w c.tb c.mb c.x.S c.x.g c.x.l
  pow : pow2 c.x.g = true
theorem EntW.fr {M : List Nat} {w w' : World} {c : Cel} (h : EntW w c) (hf : Fr M w w') (hn : ∀ k ∈ c.feet, k ∉ M) : EntW w' c :=
  ⟨h.blk.fr hf (hn _ (by simp [Cel.feet])), h.bits.fr hf (hn _ (by simp [Cel.feet])) (hn _ (by simp [Cel.feet])), h.pow⟩
theorem EntW.lt {w : World} {c : Cel} (h : EntW w c) : ∀ k ∈ c.feet, k < w.heap.size := by
  intro k hk
  simp only [Cel.feet, List.mem_cons, List.not_mem_nil, or_false] at hk
  rcases hk with rfl | rfl | rfl
  · exact h.blk.lt
  · exact h.bits.lt.1
  · exact h.bits.lt.2
structure DirW (w : World) (db mb : Nat) (L : List Cel) : Prop where
  blk : Blk w db [.map (some mb)] 48
  map : ∃ es clock, mapAt w mb = some (es, clock) ∧ IsM Tryz.prog 9 es clock (dirM L)
  ents : ∀ c ∈ L, EntW w c
  rising : Rising L
  few : L.length ≤ 8
  names : ∀ c ∈ L, okName c.x.name = true
  apart : (feet L).Nodup
  home : db ∉ feet L ∧ mb ∉ feet L
section
variable {w w' : World} {db mb : Nat} {L : List Cel}
theorem DirW.ne (h : DirW w db mb L) : db ≠ mb := by
  rintro rfl
  obtain ⟨es, c, hm, _⟩ := h.map
  have := (mapAt_some.1 hm).symm.trans h.blk
  cases this
theorem DirW.lt (h : DirW w db mb L) : ∀ k ∈ homes db mb L, k < w.heap.size := by
  intro k hk
  rcases List.mem_cons.1 hk with rfl | hk
  · exact h.blk.lt
  · rcases List.mem_cons.1 hk with rfl | hk
    · obtain ⟨es, c, hm, _⟩ := h.map
      exact mapAt_lt hm
    · obtain ⟨c, hc, hk⟩ := mem_feet.1 hk
      exact (h.ents c hc).lt k hk
theorem DirW.fr {M : List Nat} (h : DirW w db mb L) (hf : Fr M w w') (hn : ∀ k ∈ homes db mb L, k ∉ M) : DirW w' db mb L := by
  obtain ⟨es, clock, hm, hi⟩ := h.map
  exact ⟨h.blk.fr hf (hn _ (by simp [homes])), ⟨es, clock, mapAt_fr hm hf (hn _ (by simp [homes])), hi⟩, fun c hc => (h.ents c hc).fr hf fun k hk => hn k (by simp only [homes, List.mem_cons]; exact .inr (.inr (mem_feet.2 ⟨c, hc, hk⟩))), h.rising, h.few, h.names, h.apart, h.home⟩
theorem DirW.fr0 (h : DirW w db mb L) (hf : Fr [] w w') : DirW w' db mb L := h.fr hf fun _ _ h => by cases h
theorem DirW.one_key (L : List Cel) : ∀ x, x ∈ L.map (fun c => strL c.x.name) ↔ (dirM L x).isSome = true := by
  intro x
  constructor
  · intro h
    obtain ⟨c, hc, rfl⟩ := List.mem_map.1 h
    rw [dirM_str]
    cases hf : findC L c.x.name with
    | none => exact absurd rfl (findC_none.1 hf c hc)
    | some d => rfl
  · intro h
    obtain ⟨v, hv⟩ := Option.isSome_iff_exists.1 h
    obtain ⟨c, hc, rfl, _⟩ := dirM_some hv
    exact List.mem_map.2 ⟨c, hc, rfl⟩
theorem DirW.size {es : Array MapEntry} {clock : Nat} (h : Rising L) (hi : IsM Tryz.prog 9 es clock (dirM L)) : es.size = L.length := by
  have := hi.size (ks := L.map fun c => strL c.x.name) (List.pairwise_map.2 (h.imp fun {a b} hab e => by rw [strL_inj e] at hab; exact absurd hab (List.lt_irrefl _))) (DirW.one_key L)
  rw [this, List.length_map]
theorem keyStr {s : List UInt8} (h : s.length ≤ maxLen) : keyOf Tryz.prog 9 (strL s) = some (.string s) := Go.WideMaps.keyOf_string_mk Tryz.underlying9 (by simpa [ByteArray.size] using h)
/-- entries with other values, where they are -/
theorem DirW.change {M : List Nat} (h : DirW w db mb L) {p : List UInt8 → Bool} {f : Ent → Ent} (hname : ∀ x, (f x).name = x.name) (hf : Fr M w w') (hM : ∀ k ∈ M, k < w.heap.size → k ∈ feet L)
    (hE : ∀ c ∈ L, EntW w' (if p c.x.name then c.on f else c)) : DirW w' db mb (chC L p f) := by
  obtain ⟨es, clock, hm, hi⟩ := h.map
  have hfeet : feet (chC L p f) = feet L := by
    unfold feet chC
    rw [List.flatMap_map]
    congr 1
    funext d
    simp only [Cel.feet]
    rw [(chC_eb d).1, (chC_eb d).2.1, (chC_eb d).2.2]
  have hlt := h.lt
  refine ⟨h.blk.fr hf fun hk => h.home.1 (hM _ hk h.blk.lt), ⟨es, clock, mapAt_fr hm hf fun hk => h.home.2 (hM _ hk (mapAt_lt hm)), by rw [← dirM_ch hname]; exact hi⟩, ?_, chC_rising h.rising hname, by rw [chC_len]; exact h.few, ?_, by rw [hfeet]; exact h.apart, by rw [hfeet]; exact h.home⟩
  · intro c hc
    obtain ⟨d, hd, rfl⟩ := mem_chC.1 hc
    exact hE d hd
  · intro c hc
    obtain ⟨d, hd, rfl⟩ := mem_chC.1 hc
    rw [chC_name hname]
    exact h.names d hd
/-- the feet of one are no others' -/
theorem foot_apart : ∀ {L : List Cel}, (feet L).Nodup → ∀ {c d : Cel}, c ∈ L → d ∈ L → ∀ {k : Nat}, k ∈ c.feet → k ∈ d.feet → c = d
  | [], _, c, _, hc, _, _, _, _ => by cases hc
  | x :: l, hap, c, d, hc, hd, k, h1, h2 => by
    unfold feet at hap
    rw [List.flatMap_cons, List.nodup_append] at hap
    rcases List.mem_cons.1 hc with e | hc <;> rcases List.mem_cons.1 hd with e' | hd
    · rw [e, e']
    · exact absurd rfl (hap.2.2 k (e ▸ h1) k (List.mem_flatMap.2 ⟨d, hd, h2⟩))
    · exact absurd rfl (hap.2.2 k (e' ▸ h2) k (List.mem_flatMap.2 ⟨c, hc, h1⟩))
    · exact foot_apart hap.2.1 hc hd h1 h2
theorem DirW.foot (h : DirW w db mb L) {c d : Cel} (hc : c ∈ L) (hd : d ∈ L) {k : Nat} (h1 : k ∈ c.feet) (h2 : k ∈ d.feet) : c = d := foot_apart h.apart hc hd h1 h2
theorem own_apart : ∀ {L : List Cel}, (feet L).Nodup → ∀ {c : Cel}, c ∈ L → c.eb ≠ c.tb ∧ c.eb ≠ c.mb ∧ c.tb ≠ c.mb
  | [], _, c, hc => by cases hc
  | x :: l, hap, c, hc => by
    unfold feet at hap
    rw [List.flatMap_cons, List.nodup_append] at hap
    rcases List.mem_cons.1 hc with e | hc
    · have := hap.1
      subst e
      simp [Cel.feet] at this
      omega
    · exact own_apart hap.2.1 hc
theorem DirW.own (h : DirW w db mb L) {c : Cel} (hc : c ∈ L) : c.eb ≠ c.tb ∧ c.eb ≠ c.mb ∧ c.tb ≠ c.mb := own_apart h.apart hc
/-- one with other values, where it is -/
theorem DirW.one (h : DirW w db mb L) {c : Cel} (hc : c ∈ L) {f : Ent → Ent} (hname : ∀ x, (f x).name = x.name) (hf : Fr c.feet w w') (hE : EntW w' (c.on f)) : DirW w' db mb (chC L (fun s => decide (s = c.x.name)) f) := by
  refine h.change hname hf (fun k hk _ => mem_feet.2 ⟨c, hc, hk⟩) fun d hd => ?_
  by_cases e : d.x.name = c.x.name
  · have := h.rising.inj hd hc e
    subst this
    rw [if_pos (by simp)]
    exact hE
  · rw [if_neg (by simpa using e)]
    exact (h.ents d hd).fr hf fun k hk hk' => e (by rw [h.foot hd hc hk hk'])
/-- one more -/
theorem DirW.ins (h : DirW w db mb L) {c : Cel} (hn : findC L c.x.name = none) (h8 : L.length < 8) (hr : okName c.x.name = true) (hf : Fr [mb] w w') {es : Array MapEntry} {clock : Nat} (hm : mapAt w' mb = some (es, clock))
    (hi : IsM Tryz.prog 9 es clock (upd (dirM L) (strL c.x.name) (some c.ptr))) (hE : EntW w' c) (hnew : ∀ k ∈ c.feet, w.heap.size ≤ k) (hd : c.eb ≠ c.tb ∧ c.eb ≠ c.mb ∧ c.tb ≠ c.mb) : DirW w' db mb (insC c L) := by
  have hlt := h.lt
  have hmb : mb ∉ feet L := h.home.2
  have hfeet : (feet (insC c L)).Perm (c.feet ++ feet L) := by
    have := (insC_perm c L).flatMap_right Cel.feet
    simpa [feet] using this
  have hnot : ∀ k, k ∈ homes db mb L → k ∉ c.feet := fun k hk hc => by have := hlt k hk; have := hnew k hc; omega
  refine ⟨h.blk.fr hf (by simp; exact h.ne), ⟨es, clock, hm, by rw [← dirM_ins h.rising hn]; exact hi⟩, ?_, insC_rising c h.rising (findC_none.1 hn), by rw [insC_len]; omega, ?_, ?_, ?_, ?_⟩
  · intro d hd
    rcases mem_insC.1 hd with rfl | hd
    · exact hE
    · exact (h.ents d hd).fr hf fun k hk hk' => by
        have := List.mem_singleton.1 hk'
        subst this
        exact hmb (mem_feet.2 ⟨d, hd, hk⟩)
  · intro d hd
    rcases mem_insC.1 hd with rfl | hd
    · exact hr
    · exact h.names d hd
  · rw [hfeet.nodup_iff, List.nodup_append]
    refine ⟨by simp [Cel.feet]; omega, h.apart, fun a ha b hb e => ?_⟩
    subst e
    exact hnot a (by simp [homes, hb]) ha
  · rw [hfeet.mem_iff, List.mem_append]
    exact fun hx => hx.elim (hnot _ (by simp [homes])) h.home.1
  · rw [hfeet.mem_iff, List.mem_append]
    exact fun hx => hx.elim (hnot _ (by simp [homes])) h.home.2
/-- one less -/
theorem feet_rm (L : List Cel) (s : List UInt8) : (feet (rmC L s)).Sublist (feet L) := by
  unfold feet rmC
  induction L with
  | nil => exact List.Sublist.refl _
  | cons x l ih =>
    rw [List.filter_cons]
    split
    · rw [List.flatMap_cons, List.flatMap_cons]
      exact (List.Sublist.refl _).append ih
    · rw [List.flatMap_cons]
      exact ih.trans (List.sublist_append_right ..)
theorem DirW.rm (h : DirW w db mb L) (s : List UInt8) (hf : Fr [mb] w w') {es : Array MapEntry} {clock : Nat} (hm : mapAt w' mb = some (es, clock)) (hi : IsM Tryz.prog 9 es clock (upd (dirM L) (strL s) none)) : DirW w' db mb (rmC L s) := by
  have hs := feet_rm L s
  refine ⟨h.blk.fr hf (by simp; exact h.ne), ⟨es, clock, hm, by rw [← dirM_rm h.rising]; exact hi⟩, ?_, h.rising.sublist List.filter_sublist, Nat.le_trans (List.length_filter_le ..) h.few, ?_, hs.nodup h.apart, fun hk => h.home.1 (hs.subset hk), fun hk => h.home.2 (hs.subset hk)⟩
  · intro d hd
    have hd := (List.mem_filter.1 hd).1
    exact (h.ents d hd).fr hf fun k hk hk' => by
      have := List.mem_singleton.1 hk'
      subst this
      exact h.home.2 (mem_feet.2 ⟨d, hd, hk⟩)
  · intro d hd
    exact h.names d (List.mem_filter.1 hd).1
end
end Go.Proofs.YtiifmakhfpllnaaGreat
