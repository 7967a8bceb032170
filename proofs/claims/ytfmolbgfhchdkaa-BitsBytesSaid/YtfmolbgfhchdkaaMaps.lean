/-
  Maps whose keys' type has the library's 'Keyed': what a map holds, as a function from keys; the operations, as equations on their runs. No program in sight.
-/
import Derived.Test.YtfmolbgfhchdkaaMem
namespace Go.Proofs.Ytfmolbgfhchdkaa
open Go.RowKit Go.Maps Go.MapKept

/-- The map in block b, if block b is one. -/
def mapAt (w : World) (b : Nat) : Option (Array MapEntry × Nat) :=
  match w.heap[b]? with
  | some (.map es clock) => some (es, clock)
  | _ => none
theorem mapAt_some {w : World} {b : Nat} {es : Array MapEntry} {c : Nat} : mapAt w b = some (es, c) ↔ w.heap[b]? = some (.map es c) := by
  unfold mapAt
  split <;> simp_all
/-- the world with another map in block b -/
def putMap (w : World) (b : Nat) (es : Array MapEntry) (c : Nat) : World := { w with heap := w.heap.setIfInBounds b (.map es c) }
theorem mapAt_lt {w : World} {b : Nat} {x : Array MapEntry × Nat} (h : mapAt w b = some x) : b < w.heap.size := by
  obtain ⟨es, c⟩ := x
  exact (Array.getElem?_eq_some_iff.1 (mapAt_some.1 h)).1
theorem mapAt_putMap {w : World} {b : Nat} (h : b < w.heap.size) (es : Array MapEntry) (c : Nat) : mapAt (putMap w b es c) b = some (es, c) := by
  rw [mapAt_some]; simp [putMap, h]
theorem putMap_fr (w : World) (b : Nat) (es : Array MapEntry) (c : Nat) : Fr [b] w (putMap w b es c) :=
  ⟨rfl, rfl, rfl, by simp [putMap], fun k _ hn => by simp [putMap, Array.getElem?_setIfInBounds]; intro e; simp [e] at hn⟩
theorem mapAt_alloc {w : World} {b : Nat} (o : Obj) (h : b < w.heap.size) : mapAt (w.alloc o) b = mapAt w b := by
  unfold mapAt; rw [Below.heap_alloc w o b h]
theorem mapAt_setCell {w : World} {b : Nat} (p : Addr) (v : Value) : mapAt (w.setCell p v) b = mapAt w b := by
  unfold mapAt
  simp only [World.setCell, Array.getElem?_modify]
  by_cases h : p.block = b
  · rw [if_pos h]
    cases hx : w.heap[b]? with
    | none => simp
    | some o => cases o <;> simp
  · rw [if_neg h]
theorem mapAt_drew {w : World} {b : Nat} : mapAt w.drew b = mapAt w b := rfl
theorem mapAt_drewN {w : World} {b n : Nat} : mapAt (w.drewN n) b = mapAt w b := rfl
theorem mapAt_fr {L : List Nat} {w w' : World} {b : Nat} {x : Array MapEntry × Nat} (h : mapAt w b = some x) (hf : Fr L w w') (hn : b ∉ L) : mapAt w' b = some x := by
  obtain ⟨es, c⟩ := x
  exact mapAt_some.2 ((hf.block b (mapAt_lt h) hn).trans (mapAt_some.1 h))

/-- es is a map that holds m. -/
structure IsM (P : Program) (K : TypeId) (es : Array MapEntry) (clock : Nat) (m : Value → Option Value) : Prop where
  keys : ∀ e ∈ es.toList, ∃ l, keyOf P K e.key = some l
  apart : es.toList.Pairwise (fun a b => a.key ≠ b.key)
  get : ∀ x v, m x = some v ↔ ∃ e ∈ es.toList, e.key = x ∧ e.val = v
  born : ∀ e ∈ es.toList, e.born < clock
  stamps : es.toList.Pairwise (fun a b => a.born ≠ b.born)

open Classical in
noncomputable def upd (m : Value → Option Value) (k : Value) (v : Option Value) : Value → Option Value := fun x => if x = k then v else m x
theorem upd_same (m : Value → Option Value) (k : Value) (v : Option Value) : upd m k v k = v := by simp [upd]
theorem upd_other (m : Value → Option Value) {k x : Value} (v : Option Value) (h : x ≠ k) : upd m k v x = m x := by simp [upd, h]

section
variable {P : Program} {K : TypeId} {es : Array MapEntry} {clock : Nat} {m : Value → Option Value}
theorem IsM.empty : IsM P K #[] 0 (fun _ => none) := ⟨by simp, by simp, by simp, by simp, by simp⟩
theorem IsM.none_iff (h : IsM P K es clock m) (x : Value) : m x = none ↔ ∀ e ∈ es.toList, e.key ≠ x := by
  constructor
  · intro hn e he hk
    have := (h.get x e.val).2 ⟨e, he, hk, rfl⟩
    rw [hn] at this; cases this
  · intro ha
    cases hv : m x with
    | none => rfl
    | some v => obtain ⟨e, he, hk, _⟩ := (h.get x v).1 hv; exact absurd hk (ha e he)
/-- what a look-up finds -/
theorem IsM.find (h : IsM P K es clock m) (Ky : Keyed P K) (w : World) {x : Value} {lx : Lit} (hx : keyOf P K x = some lx) :
    ((Instr.findKey K x es.toList).run P w = .ok none w ∧ m x = none) ∨
    ∃ j e, (Instr.findKey K x es.toList).run P w = .ok (some (j, e.val)) w ∧ es[j]? = some e ∧ e.key = x ∧ m x = some e.val := by
  rcases Ky.find w hx es.toList h.keys with ⟨hr, hn⟩ | ⟨j, e, hr, hj, he⟩
  · exact .inl ⟨hr, (h.none_iff x).2 hn⟩
  · have hj' : es[j]? = some e := by simpa using hj
    exact .inr ⟨j, e, hr, hj', he, (h.get x e.val).2 ⟨e, List.mem_of_getElem? hj, he, rfl⟩⟩
/-- 'm[k]', 'v, ok := m[k]' -/
theorem run_lookup_isM {T E : TypeId} (ht : P.underlying T = some (.map K E)) (Ky : Keyed P K) (h : IsM P K es clock m) {z : Value} (c : Bool) {x : Value} {lx : Lit} (hx : keyOf P K x = some lx)
    (w : World) (hz : (zeroValue E).run P w = .ok z w) {b : Nat} (hb : mapAt w b = some (es, clock)) :
    (Instr.lookup T (.map (some b)) x c).run P w = .ok (if c then .tuple #[(m x).getD z, .bool (m x).isSome] else (m x).getD z) w := by
  have hb' := mapAt_some.1 hb
  have hck := Ky.check w es.isEmpty hx
  rcases h.find Ky w hx with ⟨hr, hn⟩ | ⟨j, e, hr, _, _, hv⟩
  · simp only [Instr.lookup, Sem.run_bind, run_underlying ht, Result.andThen_ok]
    simp [getObj, Sem.run, hb', hck, hr, hz, hn, Result.andThen]
  · simp only [Instr.lookup, Sem.run_bind, run_underlying ht, Result.andThen_ok]
    simp [getObj, Sem.run, hb', hck, hr, hv, Result.andThen]
/-- a look-up in a nil map -/
theorem run_lookup_nil {T E : TypeId} (ht : P.underlying T = some (.map K E)) (Ky : Keyed P K) {z : Value} (c : Bool) {x : Value} {lx : Lit} (hx : keyOf P K x = some lx)
    (w : World) (hz : (zeroValue E).run P w = .ok z w) :
    (Instr.lookup T (.map none) x c).run P w = .ok (if c then .tuple #[z, .bool false] else z) w := by
  have hck := Ky.check w true hx
  rcases Ky.find w hx [] (by simp) with ⟨hr, _⟩ | ⟨j, e, _, hj, _⟩
  · simp only [Instr.lookup, Sem.run_bind, run_underlying ht, Result.andThen_ok]
    simp [hck, hr, hz, Result.andThen]
  · simp at hj
/-- 'm[k] = v' -/
theorem run_mapUpdate_isM {T E : TypeId} (ht : P.underlying T = some (.map K E)) (Ky : Keyed P K) (h : IsM P K es clock m) {x : Value} {lx : Lit} (hx : keyOf P K x = some lx) (v : Value)
    (w : World) {b : Nat} (hb : mapAt w b = some (es, clock)) :
    ∃ es' clock', (Instr.mapUpdate T (.map (some b)) x v).run P w = .ok () (putMap w b es' clock') ∧ IsM P K es' clock' (upd m x (some v)) := by
  have hb' := mapAt_some.1 hb
  have hck := Ky.check w false hx
  rcases h.find Ky w hx with ⟨hr, hn⟩ | ⟨j, e, hr, hj, he, hv⟩
  · refine ⟨es.push { key := x, val := v, born := clock }, clock + 1, ?_, ?_, ?_, ?_, ?_, ?_⟩
    · simp only [Instr.mapUpdate, Sem.run_bind, run_underlying ht, Result.andThen_ok]
      simp [getObj, setObj, Sem.run, hb', hck, hr, Result.andThen, putMap]
    · intro e he
      simp at he
      rcases he with he | rfl
      · exact h.keys e (by simpa using he)
      · exact ⟨lx, hx⟩
    · simp only [Array.toList_push, List.pairwise_append]
      refine ⟨h.apart, by simp, fun a ha b hb => ?_⟩
      simp at hb
      subst hb
      exact ((h.none_iff x).1 hn) a ha
    · intro y u
      by_cases hy : y = x
      · subst hy
        rw [upd_same]
        constructor
        · intro hu
          cases hu
          exact ⟨{ key := y, val := v, born := clock }, by simp, rfl, rfl⟩
        · rintro ⟨e, he, hk, hv⟩
          rw [Array.toList_push, List.mem_append] at he
          rcases he with he | he
          · exact absurd hk ((h.none_iff y).1 hn e he)
          · rw [List.mem_singleton] at he
            subst he
            exact congrArg some hv
      · rw [upd_other _ _ hy, h.get]
        constructor
        · rintro ⟨e, he, hk, hv⟩
          exact ⟨e, by rw [Array.toList_push, List.mem_append]; exact .inl he, hk, hv⟩
        · rintro ⟨e, he, hk, hv⟩
          rw [Array.toList_push, List.mem_append] at he
          rcases he with he | he
          · exact ⟨e, he, hk, hv⟩
          · rw [List.mem_singleton] at he
            subst he
            exact absurd hk.symm hy
    · intro e he
      simp at he
      rcases he with he | rfl
      · exact Nat.lt_succ_of_lt (h.born e (by simpa using he))
      · exact Nat.lt_succ_self _
    · simp only [Array.toList_push, List.pairwise_append]
      refine ⟨h.stamps, by simp, fun a ha b hb => ?_⟩
      simp at hb
      subst hb
      exact Nat.ne_of_lt (h.born a ha)
  · have hst := Ky.stays w hx
    have hlt : j < es.size := (Array.getElem?_eq_some_iff.1 hj).1
    have hje : es[j] = e := (Array.getElem?_eq_some_iff.1 hj).2
    refine ⟨es.modify j fun e => { e with key := x, val := v }, clock, ?_, ?_⟩
    · simp only [Instr.mapUpdate, Sem.run_bind, run_underlying ht, Result.andThen_ok]
      simp [getObj, setObj, Sem.run, hb', hck, hr, Result.andThen, putMap, hj, he, hst]
    · have hkey : ∀ i (hi : i < (es.modify j fun e => { e with key := x, val := v }).size), ((es.modify j fun e => { e with key := x, val := v })[i]).key = (es[i]'(by simpa using hi)).key ∧ ((es.modify j fun e => { e with key := x, val := v })[i]).born = (es[i]'(by simpa using hi)).born ∧
          (i ≠ j → (es.modify j fun e => { e with key := x, val := v })[i] = es[i]'(by simpa using hi)) := by
        intro i hi
        rw [Array.getElem_modify]
        split
        · rename_i hij
          subst hij
          exact ⟨by simp [hje, he], rfl, fun hne => absurd rfl hne⟩
        · exact ⟨rfl, rfl, fun _ => rfl⟩
      have hj2 : j < (es.modify j fun e => { e with key := x, val := v }).size := by simpa using hlt
      have hat : (es.modify j fun e => { e with key := x, val := v })[j] = { key := x, val := v, born := e.born } := by
        rw [Array.getElem_modify, if_pos rfl, hje]
      refine ⟨?_, ?_, ?_, ?_, ?_⟩
      · intro e' he'
        obtain ⟨i, hi, rfl⟩ := List.getElem_of_mem he'
        have hi' : i < (es.modify j fun e => { e with key := x, val := v }).size := by simpa using hi
        have := (hkey i hi').1
        rw [Array.getElem_toList, this]
        exact h.keys _ (by simp)
      · rw [List.pairwise_iff_getElem]
        intro i k hi hk hik
        rw [Array.getElem_toList, Array.getElem_toList, (hkey i (by simpa using hi)).1, (hkey k (by simpa using hk)).1]
        have := (List.pairwise_iff_getElem.1 h.apart) i k (by simpa using hi) (by simpa using hk) hik
        simpa using this
      · intro y u
        by_cases hy : y = x
        · subst hy
          rw [upd_same]
          constructor
          · intro hu
            simp at hu
            subst hu
            exact ⟨_, Array.mem_toList_iff.2 (Array.getElem_mem hj2), by rw [hat], by rw [hat]⟩
          · rintro ⟨e', he', hk, rfl⟩
            obtain ⟨i, hi, rfl⟩ := List.getElem_of_mem he'
            have hi' : i < (es.modify j fun e => { e with key := y, val := v }).size := by simpa using hi
            rw [Array.getElem_toList] at hk ⊢
            have hij : i = j := by
              have hki := (hkey i hi').1
              rw [hki] at hk
              rcases Nat.lt_trichotomy i j with hlt' | heq | hgt
              · exact absurd (by rw [Array.getElem_toList, Array.getElem_toList, hk, hje, he]) ((List.pairwise_iff_getElem.1 h.apart) i j (by simpa using hi') (by simpa using hlt) hlt')
              · exact heq
              · exact absurd (by rw [Array.getElem_toList, Array.getElem_toList, hk, hje, he]) ((List.pairwise_iff_getElem.1 h.apart) j i (by simpa using hlt) (by simpa using hi') hgt)
            subst hij
            rw [hat]
        · rw [upd_other _ _ hy, h.get]
          constructor
          · rintro ⟨e', he', hk, hv'⟩
            obtain ⟨i, hi, rfl⟩ := List.getElem_of_mem he'
            rw [Array.getElem_toList] at hk hv'
            have hi0 : i < es.size := by simpa using hi
            have hij : i ≠ j := by rintro rfl; rw [hje, he] at hk; exact hy hk.symm
            have := (hkey i (by simpa using hi0)).2.2 hij
            exact ⟨_, by rw [Array.mem_toList_iff]; exact Array.getElem_mem (by simpa using hi0), by rw [this]; exact hk, by rw [this]; exact hv'⟩
          · rintro ⟨e', he', hk, hv'⟩
            obtain ⟨i, hi, rfl⟩ := List.getElem_of_mem he'
            rw [Array.getElem_toList] at hk hv'
            have hi' : i < (es.modify j fun e => { e with key := x, val := v }).size := by simpa using hi
            have hij : i ≠ j := by rintro rfl; rw [hat] at hk; exact hy hk.symm
            have := (hkey i hi').2.2 hij
            rw [this] at hk hv'
            exact ⟨_, by rw [Array.mem_toList_iff]; exact Array.getElem_mem (by simpa using hi'), hk, hv'⟩
      · intro e' he'
        obtain ⟨i, hi, rfl⟩ := List.getElem_of_mem he'
        rw [Array.getElem_toList, (hkey i (by simpa using hi)).2.1]
        exact h.born _ (by simp)
      · rw [List.pairwise_iff_getElem]
        intro i k hi hk hik
        rw [Array.getElem_toList, Array.getElem_toList, (hkey i (by simpa using hi)).2.1, (hkey k (by simpa using hk)).2.1]
        have := (List.pairwise_iff_getElem.1 h.stamps) i k (by simpa using hi) (by simpa using hk) hik
        simpa using this
/-- 'delete(m, k)' -/
theorem run_delete_isM {T E A2 : TypeId} {ty : TypeId} (ht : P.underlying T = some (.map K E)) (Ky : Keyed P K) (h : IsM P K es clock m) {x : Value} {lx : Lit} (hx : keyOf P K x = some lx)
    (w : World) {b : Nat} (hb : mapAt w b = some (es, clock)) :
    ∃ es', (Builtin.delete_ #[T, A2] ty #[.map (some b), x]).run P w = .ok (.tuple #[]) (putMap w b es' clock) ∧ IsM P K es' clock (upd m x none) ∧ es'.toList.Sublist es.toList := by
  have hb' := mapAt_some.1 hb
  have hck := Ky.check w es.isEmpty hx
  rcases h.find Ky w hx with ⟨hr, hn⟩ | ⟨j, e, hr, hj, he, hv⟩
  · refine ⟨es, ?_, ⟨h.keys, h.apart, ?_, h.born, h.stamps⟩, List.Sublist.refl _⟩
    · simp [Builtin.delete_, run_underlying ht, getObj, setObj, Sem.run, hb', hck, hr, Result.andThen, putMap]
    · intro y u
      by_cases hy : y = x
      · subst hy
        rw [upd_same, ← hn, h.get]
      · rw [upd_other _ _ hy, h.get]
  · have hlt : j < es.size := (Array.getElem?_eq_some_iff.1 hj).1
    have hje : es[j] = e := (Array.getElem?_eq_some_iff.1 hj).2
    have hl : (es.eraseIdxIfInBounds j).toList = es.toList.eraseIdx j := by simp [Array.eraseIdxIfInBounds, hlt]
    have hsub : (es.toList.eraseIdx j).Sublist es.toList := List.eraseIdx_sublist ..
    refine ⟨es.eraseIdxIfInBounds j, ?_, ⟨?_, ?_, ?_, ?_, ?_⟩, by rw [hl]; exact hsub⟩
    · simp [Builtin.delete_, run_underlying ht, getObj, setObj, Sem.run, hb', hck, hr, Result.andThen, putMap]
    · intro e' he'
      rw [hl] at he'
      exact h.keys e' (hsub.subset he')
    · rw [hl]; exact h.apart.sublist hsub
    · intro y u
      rw [hl]
      by_cases hy : y = x
      · subst hy
        rw [upd_same]
        constructor
        · intro h'; cases h'
        · rintro ⟨e', he', hk, _⟩
          exfalso
          rw [List.mem_eraseIdx_iff_getElem] at he'
          obtain ⟨i, hi, hne, rfl⟩ := he'
          rcases Nat.lt_trichotomy i j with hlt' | heq | hgt
          · exact absurd (by rw [hk, Array.getElem_toList, hje, he]) ((List.pairwise_iff_getElem.1 h.apart) i j hi (by simpa using hlt) hlt')
          · exact hne heq
          · exact absurd (by rw [hk, Array.getElem_toList, hje, he]) ((List.pairwise_iff_getElem.1 h.apart) j i (by simpa using hlt) hi hgt)
      · rw [upd_other _ _ hy, h.get]
        constructor
        · rintro ⟨e', he', hk, hv'⟩
          refine ⟨e', ?_, hk, hv'⟩
          obtain ⟨i, hi, rfl⟩ := List.getElem_of_mem he'
          rw [List.mem_eraseIdx_iff_getElem]
          refine ⟨i, hi, ?_, rfl⟩
          rintro rfl
          rw [Array.getElem_toList, hje, he] at hk
          exact hy hk.symm
        · rintro ⟨e', he', hk, hv'⟩
          exact ⟨e', hsub.subset he', hk, hv'⟩
    · intro e' he'
      rw [hl] at he'
      exact h.born e' (hsub.subset he')
    · rw [hl]; exact h.stamps.sublist hsub
/-- 'len(m)' -/
theorem run_len_map {T : TypeId} {ty : TypeId} {E : TypeId} (ht : P.underlying T = some (.map K E)) (w : World) {b : Nat} (hb : mapAt w b = some (es, clock)) :
    (Builtin.len_ #[T] ty #[.map (some b)]).run P w = .ok (.int .i64 es.size) w := by
  have hb' := mapAt_some.1 hb
  simp [Builtin.len_, run_underlying ht, getObj, Sem.run, hb', goInt]
/-- how many entries there are: as many as keys -/
theorem IsM.size (h : IsM P K es clock m) {ks : List Value} (hd : ks.Pairwise (· ≠ ·)) (hk : ∀ x, x ∈ ks ↔ (m x).isSome = true) : es.size = ks.length := by
  have hp : (es.toList.map (·.key)).Perm ks := by
    have h1 : (es.toList.map (·.key)).Nodup := by rw [List.Nodup, List.pairwise_map]; exact h.apart
    classical
    rw [List.perm_ext_iff_of_nodup h1 hd]
    intro x
    rw [hk]
    simp only [List.mem_map]
    constructor
    · rintro ⟨e, he, rfl⟩
      rw [(h.get e.key e.val).2 ⟨e, he, rfl, rfl⟩]; rfl
    · intro hx
      obtain ⟨v, hv⟩ := Option.isSome_iff_exists.1 hx
      obtain ⟨e, he, hk', _⟩ := (h.get x v).1 hv
      exact ⟨e, he, hk'⟩
  have := hp.length_eq
  simpa using this
/-- 'delete' at its operation -/
theorem wpList_delete_isM {ops : Array Oper} {rest : List Oper} {o : Oper} {a : Act} {Q : Exit → Act → World → Prop} {w : World} (hg : o.guard = none) (x y : Operand) (T A2 : TypeId)
    (ho : o.op = .call { callee := .builtin .delete, args := #[x, y], argTypes := #[T, A2] }) {E : TypeId} (ht : P.underlying T = some (.map K E)) (Ky : Keyed P K) (h : IsM P K es clock m) (b : Nat)
    (hx : a.eval x = .map (some b)) (k : Value) (hy : a.eval y = k) {lx : Lit} (hk : keyOf P K k = some lx) (hb : mapAt w b = some (es, clock))
    (hK : ∀ es', IsM P K es' clock (upd m k none) → wpList P ops Q rest (a.put o.dst (.tuple #[])) (putMap w b es' clock)) : wpList P ops Q (o :: rest) a w :=
  wpList_plain hg fun K' hK' => by
    obtain ⟨es', hr, hi, _⟩ := run_delete_isM (P := P) (A2 := A2) (ty := o.type) ht Ky h hk w hb
    unfold Oper.wp execOp
    simp only [ho, resolve, invoke, builtin, Sem.run_bind, Sem.run_pure, Result.andThen_ok, List.map_toArray, List.map_cons, List.map_nil, hx, hy, hr]
    exact hK' _ _ (hK es' hi)
/-- a store into a map at its operation -/
theorem wpList_mapUpdate_isM {ops : Array Oper} {rest : List Oper} {o : Oper} {a : Act} {Q : Exit → Act → World → Prop} {w : World} (hg : o.guard = none) (x y z : Operand) (T : TypeId)
    (ho : o.op = .mapUpdate T x y z) {E : TypeId} (ht : P.underlying T = some (.map K E)) (Ky : Keyed P K) (h : IsM P K es clock m) (b : Nat)
    (hx : a.eval x = .map (some b)) (k : Value) (hy : a.eval y = k) (v : Value) (hz : a.eval z = v) {lx : Lit} (hk : keyOf P K k = some lx) (hb : mapAt w b = some (es, clock))
    (hK : ∀ es' clock', IsM P K es' clock' (upd m k (some v)) → wpList P ops Q rest (a.put o.dst undef) (putMap w b es' clock')) : wpList P ops Q (o :: rest) a w :=
  wpList_plain hg fun K' hK' => by
    obtain ⟨es', clock', hr, hi⟩ := run_mapUpdate_isM (P := P) ht Ky h hk v w hb
    unfold Oper.wp execOp
    simp only [ho, hx, hy, hz, Sem.run_bind, Sem.run_pure, Result.andThen_ok, hr]
    exact hK' _ _ (hK es' clock' hi)
end
end Go.Proofs.Ytfmolbgfhchdkaa
