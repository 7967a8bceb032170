/-
  Maps whose keys' type has the library's 'Keyed': what a map holds, as a function from keys; the operations, as equations on their runs. No program in sight.
-/
import Derived.Test.YtilhbjjjmdnjmaaGreatM00
import Derived.Test.YtilhbjjjmdnjmaaGreatProg
import Derived.ChangeKeysEq
namespace Go.Proofs.YtilhbjjjmdnjmaaGreat
open Go.RowKit Go.Maps Go.MapKept

/-- The map in block b, if block b is one. -/
def mapAt (w : World) (b : Nat) : Option (Array MapEntry × Nat) :=
  match w.heap[b]? with
  | some (.map es clock) => some (es, clock)
  | _ => none
theorem mapAt_some {w : World} {b : Nat} {es : Array MapEntry} {c : Nat} : mapAt w b = some (es, c) ↔ w.heap[b]? = some (.map es c) := by
  unfold mapAt
  split <;> simp_all
/-- the world with another map in block b -/
def putMap (w : World) (b : Nat) (es : Array MapEntry) (c : Nat) : World := { w with heap := w.heap.setIfInBounds b (.map es c) }
theorem mapAt_lt {w : World} {b : Nat} {x : Array MapEntry × Nat} (h : mapAt w b = some x) : b < w.heap.size := by
  obtain ⟨es, c⟩ := x
  exact (Array.getElem?_eq_some_iff.1 (mapAt_some.1 h)).1
theorem mapAt_putMap {w : World} {b : Nat} (h : b < w.heap.size) (es : Array MapEntry) (c : Nat) : mapAt (putMap w b es c) b = some (es, c) := by
  rw [mapAt_some]; simp [putMap, h]
theorem putMap_fr (w : World) (b : Nat) (es : Array MapEntry) (c : Nat) : Fr [b] w (putMap w b es c) :=
  ⟨rfl, rfl, rfl, by simp [putMap], fun k _ hn => by simp [putMap, Array.getElem?_setIfInBounds]; intro e; simp [e] at hn⟩
theorem mapAt_alloc {w : World} {b : Nat} (o : Obj) (h : b < w.heap.size) : mapAt (w.alloc o) b = mapAt w b := by
  unfold mapAt; rw [Below.heap_alloc w o b h]
theorem mapAt_setCell {w : World} {b : Nat} (p : Addr) (v : Value) : mapAt (w.setCell p v) b = mapAt w b := by
  unfold mapAt
  simp only [World.setCell, Array.getElem?_modify]
  by_cases h : p.block = b
  · rw [if_pos h]
    cases hx : w.heap[b]? with
    | none => simp
    | some o => cases o <;> simp
  · rw [if_neg h]
theorem mapAt_drew {w : World} {b : Nat} : mapAt w.drew b = mapAt w b := rfl
theorem mapAt_drewN {w : World} {b n : Nat} : mapAt (w.drewN n) b = mapAt w b := rfl
theorem mapAt_fr {L : List Nat} {w w' : World} {b : Nat} {x : Array MapEntry × Nat} (h : mapAt w b = some x) (hf : Fr L w w') (hn : b ∉ L) : mapAt w' b = some x := by
  obtain ⟨es, c⟩ := x
  exact mapAt_some.2 ((hf.block b (mapAt_lt h) hn).trans (mapAt_some.1 h))

/-- es is a map that holds m. -/
structure IsM (P : Program) (K : TypeId) (es : Array MapEntry) (clock : Nat) (m : Value → Option Value) : Prop where
  keys : ∀ e ∈ es.toList, ∃ l, keyOf P K e.key = some l
  apart : es.toList.Pairwise (fun a b => a.key ≠ b.key)
  get : ∀ x v, m x = some v ↔ ∃ e ∈ es.toList, e.key = x ∧ e.val = v
  born : ∀ e ∈ es.toList, e.born < clock
  stamps : es.toList.Pairwise (fun a b => a.born ≠ b.born)

open Classical in
noncomputable def upd (m : Value → Option Value) (k : Value) (v : Option Value) : Value → Option Value := fun x => if x = k then v else m x
theorem upd_same (m : Value → Option Value) (k : Value) (v : Option Value) : upd m k v k = v := by simp [upd]
theorem upd_other (m : Value → Option Value) {k x : Value} (v : Option Value) (h : x ≠ k) : upd m k v x = m x := by simp [upd, h]

section
variable {P : Program} {K : TypeId} {es : Array MapEntry} {clock : Nat} {m : Value → Option Value}
theorem IsM.empty : IsM P K #[] 0 (fun _ => none) := ⟨by simp, by simp, by simp, by simp, by simp⟩
theorem IsM.none_iff (h : IsM P K es clock m) (x : Value) : m x = none ↔ ∀ e ∈ es.toList, e.key ≠ x := by
  constructor
  · intro hn e he hk
    have := (h.get x e.val).2 ⟨e, he, hk, rfl⟩
    rw [hn] at this; cases this
  · intro ha
    cases hv : m x with
    | none => rfl
    | some v => obtain ⟨e, he, hk, _⟩ := (h.get x v).1 hv; exact absurd hk (ha e he)
/-- what a look-up finds -/
theorem IsM.find (h : IsM P K es clock m) (Ky : Keyed P K) (w : World) {x : Value} {lx : Lit} (hx : keyOf P K x = some lx) :
    ((Instr.findKey K x es.toList).run P w = .ok none w ∧ m x = none) ∨
    ∃ j e, (Instr.findKey K x es.toList).run P w = .ok (some (j, e.val)) w ∧ es[j]? = some e ∧ e.key = x ∧ m x = some e.val := by
  rcases Ky.find w hx es.toList h.keys with ⟨hr, hn⟩ | ⟨j, e, hr, hj, he⟩
  · exact .inl ⟨hr, (h.none_iff x).2 hn⟩
  · have hj' : es[j]? = some e := by simpa using hj
    exact .inr ⟨j, e, hr, hj', he, (h.get x e.val).2 ⟨e, List.mem_of_getElem? hj, he, rfl⟩⟩
/-- 'm[k]', 'v, ok := m[k]' -/
theorem run_lookup_isM {T E : TypeId} (ht : P.underlying T = some (.map K E)) (Ky : Keyed P K) (h : IsM P K es clock m) {z : Value} (c : Bool) {x : Value} {lx : Lit} (hx : keyOf P K x = some lx)
    (w : World) (hz : (zeroValue E).run P w = .ok z w) {b : Nat} (hb : mapAt w b = some (es, clock)) :
    (Instr.lookup T (.map (some b)) x c).run P w = .ok (if c then .tuple #[(m x).getD z, .bool (m x).isSome] else (m x).getD z) w := by
  have hb' := mapAt_some.1 hb
  have hck := Ky.check w es.isEmpty hx
  rcases h.find Ky w hx with ⟨hr, hn⟩ | ⟨j, e, hr, _, _, hv⟩
  · simp only [Instr.lookup, Sem.run_bind, run_underlying ht, Result.andThen_ok]
    simp [getObj, Sem.run, hb', hck, hr, hz, hn, Result.andThen]
  · simp only [Instr.lookup, Sem.run_bind, run_underlying ht, Result.andThen_ok]
    simp [getObj, Sem.run, hb', hck, hr, hv, Result.andThen]
/-- a look-up in a nil map -/
theorem run_lookup_nil {T E : TypeId} (ht : P.underlying T = some (.map K E)) (Ky : Keyed P K) {z : Value} (c : Bool) {x : Value} {lx : Lit} (hx : keyOf P K x = some lx)
    (w : World) (hz : (zeroValue E).run P w = .ok z w) :
    (Instr.lookup T (.map none) x c).run P w = .ok (if c then .tuple #[z, .bool false] else z) w := by
  have hck := Ky.check w true hx
  rcases Ky.find w hx [] (by simp) with ⟨hr, _⟩ | ⟨j, e, _, hj, _⟩
  · simp only [Instr.lookup, Sem.run_bind, run_underlying ht, Result.andThen_ok]
    simp [hck, hr, hz, Result.andThen]
  · simp at hj
/-- 'm[k] = v' -/
theorem run_mapUpdate_isM {T E : TypeId} (ht : P.underlying T = some (.map K E)) (Ky : Keyed P K) (h : IsM P K es clock m) {x : Value} {lx : Lit} (hx : keyOf P K x = some lx) (v : Value)
    (w : World) {b : Nat} (hb : mapAt w b = some (es, clock)) :
    ∃ es' clock', (Instr.mapUpdate T (.map (some b)) x v).run P w = .ok () (putMap w b es' clock') ∧ IsM P K es' clock' (upd m x (some v)) := by
  have hb' := mapAt_some.1 hb
  have hck := Ky.check w false hx
  rcases h.find Ky w hx with ⟨hr, hn⟩ | ⟨j, e, hr, hj, he, hv⟩
  · refine ⟨es.push { key := x, val := v, born := clock }, clock + 1, ?_, ?_, ?_, ?_, ?_, ?_⟩
    · simp only [Instr.mapUpdate, Sem.run_bind, run_underlying ht, Result.andThen_ok]
      simp [getObj, setObj, Sem.run, hb', hck, hr, Result.andThen, putMap]
    · intro e he
      simp at he
      rcases he with he | rfl
      · exact h.keys e (by simpa using he)
      · exact ⟨lx, hx⟩
    · simp only [Array.toList_push, List.pairwise_append]
      refine ⟨h.apart, by simp, fun a ha b hb => ?_⟩
      simp at hb
      subst hb
      exact ((h.none_iff x).1 hn) a ha
    · intro y u
      by_cases hy : y = x
      · subst hy
        rw [upd_same]
        constructor
        · intro hu
          cases hu
          exact ⟨{ key := y, val := v, born := clock }, by simp, rfl, rfl⟩
        · rintro ⟨e, he, hk, hv⟩
          rw [Array.toList_push, List.mem_append] at he
          rcases he with he | he
          · exact absurd hk ((h.none_iff y).1 hn e he)
          · rw [List.mem_singleton] at he
            subst he
            exact congrArg some hv
      · rw [upd_other _ _ hy, h.get]
        constructor
        · rintro ⟨e, he, hk, hv⟩
          exact ⟨e, by rw [Array.toList_push, List.mem_append]; exact .inl he, hk, hv⟩
        · rintro ⟨e, he, hk, hv⟩
          rw [Array.toList_push, List.mem_append] at he
          rcases he with he | he
          · exact ⟨e, he, hk, hv⟩
          · rw [List.mem_singleton] at he
            subst he
            exact absurd hk.symm hy
    · intro e he
      simp at he
      rcases he with he | rfl
      · exact Nat.lt_succ_of_lt (h.born e (by simpa using he))
      · exact Nat.lt_succ_self _
    · simp only [Array.toList_push, List.pairwise_append]
      refine ⟨h.stamps, by simp, fun a ha b hb => ?_⟩
      simp at hb
      subst hb
      exact Nat.ne_of_lt (h.born a ha)
  · have hst := Ky.stays w hx
    have hlt : j < es.size := (Array.getElem?_eq_some_iff.1 hj).1
    have hje : es[j] = e := (Array.getElem?_eq_some_iff.1 hj).2
    refine ⟨es.modify j fun e => { e with key := x, val := v }, clock, ?_, ?_⟩
    · simp only [Instr.mapUpdate, Sem.run_bind, run_underlying ht, Result.andThen_ok]
      simp [getObj, setObj, Sem.run, hb', hck, hr, Result.andThen, putMap, hj, he, hst]
    · have hkey : ∀ i (hi : i < (es.modify j fun e => { e with key := x, val := v }).size), ((es.modify j fun e => { e with key := x, val := v })[i]).key = (es[i]'(by simpa using hi)).key ∧ ((es.modify j fun e => { e with key := x, val := v })[i]).born = (es[i]'(by simpa using hi)).born ∧
          (i ≠ j → (es.modify j fun e => { e with key := x, val := v })[i] = es[i]'(by simpa using hi)) := by
        intro i hi
        rw [Array.getElem_modify]
        split
        · rename_i hij
          subst hij
          exact ⟨by simp [hje, he], rfl, fun hne => absurd rfl hne⟩
        · exact ⟨rfl, rfl, fun _ => rfl⟩
      have hj2 : j < (es.modify j fun e => { e with key := x, val := v }).size := by simpa using hlt
      have hat : (es.modify j fun e => { e with key := x, val := v })[j] = { key := x, val := v, born := e.born } := by
        rw [Array.getElem_modify, if_pos rfl, hje]
      refine ⟨?_, ?_, ?_, ?_, ?_⟩
      · intro e' he'
        obtain ⟨i, hi, rfl⟩ := List.getElem_of_mem he'
        have hi' : i < (es.modify j fun e => { e with key := x, val := v }).size := by simpa using hi
        have := (hkey i hi').1
        rw [Array.getElem_toList, this]
        exact h.keys _ (by simp)
      · rw [List.pairwise_iff_getElem]
        intro i k hi hk hik
        rw [Array.getElem_toList, Array.getElem_toList, (hkey i (by simpa using hi)).1, (hkey k (by simpa using hk)).1]
        have := (List.pairwise_iff_getElem.1 h.apart) i k (by simpa using hi) (by simpa using hk) hik
        simpa using this
      · intro y u
        by_cases hy : y = x
        · subst hy
          rw [upd_same]
          constructor
          · intro hu
            simp at hu
            subst hu
            exact ⟨_, Array.mem_toList_iff.2 (Array.getElem_mem hj2), by rw [hat], by rw [hat]⟩
          · rintro ⟨e', he', hk, rfl⟩
            obtain ⟨i, hi, rfl⟩ := List.getElem_of_mem he'
            have hi' : i < (es.modify j fun e => { e with key := y, val := v }).size := by simpa using hi
            rw [Array.getElem_toList] at hk ⊢
            have hij : i = j := by
              have hki := (hkey i hi').1
              rw [hki] at hk
              rcases Nat.lt_trichotomy i j with hlt' | heq | hgt
              · exact absurd (by rw [Array.getElem_toList, Array.getElem_toList, hk, hje, he]) ((List.pairwise_iff_getElem.1 h.apart) i j (by simpa using hi') (by simpa using hlt) hlt')
              · exact heq
              · exact absurd (by rw [Array.getElem_toList, Array.getElem_toList, hk, hje, he]) ((List.pairwise_iff_getElem.1 h.apart) j i (by simpa using hlt) (by simpa using hi') hgt)
            subst hij
            rw [hat]
        · rw [upd_other _ _ hy, h.get]
          constructor
          · rintro ⟨e', he', hk, hv'⟩
            obtain ⟨i, hi, rfl⟩ := List.getElem_of_mem he'
            rw [Array.getElem_toList] at hk hv'
            have hi0 : i < es.size := by simpa using hi
            have hij : i ≠ j := by rintro rfl; rw [hje, he] at hk; exact hy hk.symm
            have := (hkey i (by simpa using hi0)).2.2 hij
            exact ⟨_, by rw [Array.mem_toList_iff]; exact Array.getElem_mem (by simpa using hi0), by rw [this]; exact hk, by rw [this]; exact hv'⟩
          · rintro ⟨e', he', hk, hv'⟩
            obtain ⟨i, hi, rfl⟩ := List.getElem_of_mem he'
            rw [Array.getElem_toList] at hk hv'
            have hi' : i < (es.modify j fun e => { e with key := x, val := v }).size := by simpa using hi
            have hij : i ≠ j := by rintro rfl; rw [hat] at hk; exact hy hk.symm
            have := (hkey i hi').2.2 hij
            rw [this] at hk hv'
            exact ⟨_, by rw [Array.mem_toList_iff]; exact Array.getElem_mem (by simpa using hi'), hk, hv'⟩
      · intro e' he'
        obtain ⟨i, hi, rfl⟩ := List.getElem_of_mem he'
        rw [Array.getElem_toList, (hkey i (by simpa using hi)).2.1]
        exact h.born _ (by simp)
      · rw [List.pairwise_iff_getElem]
        intro i k hi hk hik
        rw [Array.getElem_toList, Array.getElem_toList, (hkey i (by simpa using hi)).2.1, (hkey k (by simpa using hk)).2.1]
        have := (List.pairwise_iff_getElem.1 h.stamps) i k (by simpa using hi) (by simpa using hk) hik
        simpa using this
/-- 'delete(m, k)' -/
theorem run_delete_isM {T E A2 : TypeId} {ty : TypeId} (ht : P.underlying T = some (.map K E)) (Ky : Keyed P K) (h : IsM P K es clock m) {x : Value} {lx : Lit} (hx : keyOf P K x = some lx)
    (w : World) {b : Nat} (hb : mapAt w b = some (es, clock)) :
    ∃ es', (Builtin.delete_ #[T, A2] ty #[.map (some b), x]).run P w = .ok (.tuple #[]) (putMap w b es' clock) ∧ IsM P K es' clock (upd m x none) ∧ es'.toList.Sublist es.toList := by
  have hb' := mapAt_some.1 hb
  have hck := Ky.check w es.isEmpty hx
  rcases h.find Ky w hx with ⟨hr, hn⟩ | ⟨j, e, hr, hj, he, hv⟩
  · refine ⟨es, ?_, ⟨h.keys, h.apart, ?_, h.born, h.stamps⟩, List.Sublist.refl _⟩
    · simp [Builtin.delete_, run_underlying ht, getObj, setObj, Sem.run, hb', hck, hr, Result.andThen, putMap]
    · intro y u
      by_cases hy : y = x
      · subst hy
        rw [upd_same, ← hn, h.get]
      · rw [upd_other _ _ hy, h.get]
  · have hlt : j < es.size := (Array.getElem?_eq_some_iff.1 hj).1
    have hje : es[j] = e := (Array.getElem?_eq_some_iff.1 hj).2
    have hl : (es.eraseIdxIfInBounds j).toList = es.toList.eraseIdx j := by simp [Array.eraseIdxIfInBounds, hlt]
    have hsub : (es.toList.eraseIdx j).Sublist es.toList := List.eraseIdx_sublist ..
    refine ⟨es.eraseIdxIfInBounds j, ?_, ⟨?_, ?_, ?_, ?_, ?_⟩, by rw [hl]; exact hsub⟩
    · simp [Builtin.delete_, run_underlying ht, getObj, setObj, Sem.run, hb', hck, hr, Result.andThen, putMap]
    · intro e' he'
      rw [hl] at he'
      exact h.keys e' (hsub.subset he')
    · rw [hl]; exact h.apart.sublist hsub
    · intro y u
      rw [hl]
      by_cases hy : y = x
      · subst hy
        rw [upd_same]
        constructor
        · intro h'; cases h'
        · rintro ⟨e', he', hk, _⟩
          exfalso
          rw [List.mem_eraseIdx_iff_getElem] at he'
          obtain ⟨i, hi, hne, rfl⟩ := he'
          rcases Nat.lt_trichotomy i j with hlt' | heq | hgt
          · exact absurd (by rw [hk, Array.getElem_toList, hje, he]) ((List.pairwise_iff_getElem.1 h.apart) i j hi (by simpa using hlt) hlt')
          · exact hne heq
          · exact absurd (by rw [hk, Array.getElem_toList, hje, he]) ((List.pairwise_iff_getElem.1 h.apart) j i (by simpa using hlt) hi hgt)
      · rw [upd_other _ _ hy, h.get]
        constructor
        · rintro ⟨e', he', hk, hv'⟩
          refine ⟨e', ?_, hk, hv'⟩
          obtain ⟨i, hi, rfl⟩ := List.getElem_of_mem he'
          rw [List.mem_eraseIdx_iff_getElem]
          refine ⟨i, hi, ?_, rfl⟩
          rintro rfl
          rw [Array.getElem_toList, hje, he] at hk
          exact hy hk.symm
        · rintro ⟨e', he', hk, hv'⟩
          exact ⟨e', hsub.subset he', hk, hv'⟩
    · intro e' he'
      rw [hl] at he'
      exact h.born e' (hsub.subset he')
    · rw [hl]; exact h.stamps.sublist hsub
/-- 'len(m)' -/
theorem run_len_map {T : TypeId} {ty : TypeId} {E : TypeId} (ht : P.underlying T = some (.map K E)) (w : World) {b : Nat} (hb : mapAt w b = some (es, clock)) :
    (Builtin.len_ #[T] ty #[.map (some b)]).run P w = .ok (.int .i64 es.size) w := by
  have hb' := mapAt_some.1 hb
  simp [Builtin.len_, run_underlying ht, getObj, Sem.run, hb', goInt]
/-- how many entries there are: as many as keys -/
theorem IsM.size (h : IsM P K es clock m) {ks : List Value} (hd : ks.Pairwise (· ≠ ·)) (hk : ∀ x, x ∈ ks ↔ (m x).isSome = true) : es.size = ks.length := by
  have hp : (es.toList.map (·.key)).Perm ks := by
    have h1 : (es.toList.map (·.key)).Nodup := by rw [List.Nodup, List.pairwise_map]; exact h.apart
    classical
    rw [List.perm_ext_iff_of_nodup h1 hd]
    intro x
    rw [hk]
    simp only [List.mem_map]
    constructor
    · rintro ⟨e, he, rfl⟩
      rw [(h.get e.key e.val).2 ⟨e, he, rfl, rfl⟩]; rfl
    · intro hx
      obtain ⟨v, hv⟩ := Option.isSome_iff_exists.1 hx
      obtain ⟨e, he, hk', _⟩ := (h.get x v).1 hv
      exact ⟨e, he, hk'⟩
  have := hp.length_eq
  simpa using this
/-- 'delete' at its operation -/
theorem wpList_delete_isM {ops : Array Oper} {rest : List Oper} {o : Oper} {a : Act} {Q : Exit → Act → World → Prop} {w : World} (hg : o.guard = none) (x y : Operand) (T A2 : TypeId)
    (ho : o.op = .call { callee := .builtin .delete, args := #[x, y], argTypes := #[T, A2] }) {E : TypeId} (ht : P.underlying T = some (.map K E)) (Ky : Keyed P K) (h : IsM P K es clock m) (b : Nat)
    (hx : a.eval x = .map (some b)) (k : Value) (hy : a.eval y = k) {lx : Lit} (hk : keyOf P K k = some lx) (hb : mapAt w b = some (es, clock))
    (hK : ∀ es', IsM P K es' clock (upd m k none) → wpList P ops Q rest (a.put o.dst (.tuple #[])) (putMap w b es' clock)) : wpList P ops Q (o :: rest) a w :=
  wpList_plain hg fun K' hK' => by
    obtain ⟨es', hr, hi, _⟩ := run_delete_isM (P := P) (A2 := A2) (ty := o.type) ht Ky h hk w hb
    unfold Oper.wp execOp
    simp only [ho, resolve, invoke, builtin, Sem.run_bind, Sem.run_pure, Result.andThen_ok, List.map_toArray, List.map_cons, List.map_nil, hx, hy, hr]
    exact hK' _ _ (hK es' hi)
/-- a store into a map at its operation -/
theorem wpList_mapUpdate_isM {ops : Array Oper} {rest : List Oper} {o : Oper} {a : Act} {Q : Exit → Act → World → Prop} {w : World} (hg : o.guard = none) (x y z : Operand) (T : TypeId)
    (ho : o.op = .mapUpdate T x y z) {E : TypeId} (ht : P.underlying T = some (.map K E)) (Ky : Keyed P K) (h : IsM P K es clock m) (b : Nat)
    (hx : a.eval x = .map (some b)) (k : Value) (hy : a.eval y = k) (v : Value) (hz : a.eval z = v) {lx : Lit} (hk : keyOf P K k = some lx) (hb : mapAt w b = some (es, clock))
    (hK : ∀ es' clock', IsM P K es' clock' (upd m k (some v)) → wpList P ops Q rest (a.put o.dst undef) (putMap w b es' clock')) : wpList P ops Q (o :: rest) a w :=
  wpList_plain hg fun K' hK' => by
    obtain ⟨es', clock', hr, hi⟩ := run_mapUpdate_isM (P := P) ht Ky h hk v w hb
    unfold Oper.wp execOp
    simp only [ho, hx, hy, hz, Sem.run_bind, Sem.run_pure, Result.andThen_ok, hr]
    exact hK' _ _ (hK es' clock' hi)
end
end Go.Proofs.YtilhbjjjmdnjmaaGreat

namespace Go.Proofs.YtilhbjjjmdnjmaaGreat
open Go.RowKit Go.Maps

theorem follows : Tryz.prog.follows .mixedOrders = true := by kernel_rfl
/-- the cells of a group -/
def gC (g : List Slt) : Array Value := (g.flatMap slotC).toArray
theorem gC_size (g : List Slt) : (gC g).size = g.length * 3 := by
  simp only [gC, List.size_toArray]
  induction g with
  | nil => rfl
  | cons s g ih => simp [ih]; omega
theorem flat_slot (g : List Slt) : ∀ (i j : Nat), j < 3 → (g.flatMap slotC)[i * 3 + j]? = (g[i]?).bind (fun s => (slotC s)[j]?) := by
  induction g with
  | nil => intro i j _; simp
  | cons s g ih =>
    intro i j hj
    rw [List.flatMap_cons]
    cases i with
    | zero =>
      rw [List.getElem?_append_left (by simp; omega)]
      simp
    | succ i =>
      rw [List.getElem?_append_right (by simp; omega)]
      have : (i + 1) * 3 + j - (slotC s).length = i * 3 + j := by simp; omega
      rw [this, ih i j hj]
      simp
theorem gC_at (g : List Slt) (i j : Nat) (hj : j < 3) : (gC g)[i * 3 + j]? = (g[i]?).bind (fun s => (slotC s)[j]?) := by
  simpa [gC] using flat_slot g i j hj
theorem gC_extract (g : List Slt) (i : Nat) (hi : i < g.length) : (gC g).extract (i * 3) (i * 3 + 3) = #[.int .i64 (g.getD i zS).1, .int .i64 (g.getD i zS).2.1, .bool (g.getD i zS).2.2] := by
  have hs := gC_size g
  have hg : g[i]? = some (g.getD i zS) := by rw [List.getD_eq_getElem?_getD, List.getElem?_eq_getElem hi]; rfl
  apply Array.ext
  · simp [hs]; omega
  · intro j h1 h2
    have hj : j < 3 := by simpa using h2
    have := gC_at g i j hj
    rw [hg] at this
    rw [Array.getElem_extract, ← Option.some_inj, ← Array.getElem?_eq_getElem, this]
    match j, hj with
    | 0, _ => rfl
    | 1, _ => rfl
    | 2, _ => rfl
theorem gC_inj {g g' : List Slt} (h : g.length = g'.length) (e : ∀ i, i < g.length → (gC g).extract (i * 3) (i * 3 + 3) = (gC g').extract (i * 3) (i * 3 + 3)) : g = g' := by
  apply List.ext_getElem h
  intro i h1 h2
  have := e i h1
  rw [gC_extract g i h1, gC_extract g' i h2] at this
  rw [List.getD_eq_getElem?_getD, List.getElem?_eq_getElem h1, List.getD_eq_getElem?_getD, List.getElem?_eq_getElem h2] at this
  simp at this
  obtain ⟨a, b, c⟩ := this
  generalize g[i] = x at *
  generalize g'[i] = y at *
  obtain ⟨x1, x2, x3⟩ := x
  obtain ⟨y1, y2, y3⟩ := y
  simp_all

/-! ### equality of slots -/
theorem fieldsSlot (f : Array Field) (h : f = #[{ name := "Kind", type := 3, offset := 0, embedded := false, tag := "", pkgPath := "", byteOffset := 0 }, { name := "Host", type := 3, offset := 1, embedded := false, tag := "", pkgPath := "", byteOffset := 8 },{ name := "Own", type := 4, offset := 2, embedded := false, tag := "", pkgPath := "", byteOffset := 16 }])
    (d : Nat) (a b : Slt) (w : World) : (Op.eqFields (d + 1) (slotC a).toArray (slotC b).toArray f.toList).run Tryz.prog w = .ok (sEq a b) w := by
  obtain ⟨a1, a2, a3⟩ := a
  obtain ⟨b1, b2, b3⟩ := b
  rw [h]
  unfold sEq
  by_cases h1 : a1 = b1 <;> by_cases h2 : a2 = b2 <;> cases a3 <;> cases b3 <;> simp [Op.eqFields, go_sem, h1, h2, Tryz.underlying3, Tryz.underlying4]
theorem equalSlot (d : Nat) (a b : Int) (c : Bool) (a' b' : Int) (c' : Bool) (w : World) :
    (Op.equalIn (d + 2) 90 (.agg #[.int .i64 a, .int .i64 b, .bool c]) (.agg #[.int .i64 a', .int .i64 b', .bool c'])).run Tryz.prog w = .ok (sEq (a, b, c) (a', b', c')) w := by
  rw [run_equalIn_struct (P := Tryz.prog) w (d + 1) 90 _ _ (by kernel_rfl) (by kernel_rfl)]
  exact fieldsSlot _ (by kernel_rfl) d (a, b, c) (a', b', c') w
theorem equalSlot0 (a b : Int) (c : Bool) (a' b' : Int) (c' : Bool) (w : World) :
    (Op.equalIn 10000 90 (.agg #[.int .i64 a, .int .i64 b, .bool c]) (.agg #[.int .i64 a', .int .i64 b', .bool c'])).run Tryz.prog w = .ok (sEq (a, b, c) (a', b', c')) w := equalSlot 9998 a b c a' b' c' w
theorem fieldKind (p q r : Value) (w : World) : (Instr.field 90 (.agg #[p, q, r]) 0).run Tryz.prog w = .ok p w := by kernel_rfl
theorem part_slot (g : List Slt) (i : Nat) (hi : i < g.length) (w : World) : (part 90 (gC g) (i * 3)).run Tryz.prog w = .ok (slotV (g.getD i zS)) w := by
  have h1 : (isAgg 90).run Tryz.prog w = .ok true w := by kernel_rfl
  have h2 : (sizeOf 90).run Tryz.prog w = .ok 3 w := by kernel_rfl
  simp only [part, Sem.run_bind, h1, h2, Result.andThen_ok, if_true, Sem.run_pure, gC_extract g i hi]
theorem zeroGroup (w : World) : (zeroValue 136).run Tryz.prog w = .ok (.agg (gC (zG))) w := by kernel_rfl
theorem buildGroup (w : World) : (Instr.build 136 #[]).run Tryz.prog w = .ok (.agg (gC (zG))) w := by kernel_rfl
theorem indexGroup (g : List Slt) (hg : g.length = 16) (i : Int) (h0 : 0 ≤ i) (h1 : i < 16) (w : World) :
    (Instr.index 136 (.agg (gC g)) (.int .i64 i)).run Tryz.prog w = .ok (slotV (g.getD i.toNat zS)) w := by
  have h2 : (sizeOf 90).run Tryz.prog w = .ok 3 w := by kernel_rfl
  have hb : 0 ≤ i ∧ i < ((16 : Nat) : Int) := ⟨h0, h1⟩
  simp only [Instr.index, asIntOf, Sem.run_bind, Sem.run_pure, Result.andThen_ok, run_underlying Tryz.underlying136, if_pos hb, h2, part_slot g i.toNat (by omega)]
theorem slt_eta (s : Slt) : (s.1, s.2.1, s.2.2) = s := rfl
theorem infoSlot : (Tryz.prog.info? 90).map (fun i => (i.zero, i.size, i.bytes)) = some (some (.agg #[.int .i64 0, .int .i64 0, .bool false]), 3, 24) := by kernel_rfl
theorem eqItems_groups (d : Nat) (g g' : List Slt) (h : g.length = g'.length) (w : World) : ∀ (is : List Nat), (∀ i ∈ is, i < g.length) →
    (Op.eqItems (d + 2) 90 3 (gC g) (gC g') is).run Tryz.prog w = .ok (is.all fun i => sEq (g.getD i zS) (g'.getD i zS)) w
  | [], _ => by simp [Op.eqItems]
  | i :: is, hi => by
    have hi0 := hi i (by simp)
    simp only [Op.eqItems, Sem.run_bind, part_slot g i hi0, part_slot g' i (by omega), Result.andThen_ok, equalSlot d, slt_eta, List.all_cons]
    cases hs : sEq (g.getD i zS) (g'.getD i zS) with
    | false => simp only [Bool.not_false, if_true, Sem.run_pure, Bool.false_and]
    | true =>
      simp only [Bool.not_true, Bool.false_eq_true, if_false, Bool.true_and]
      exact eqItems_groups d g g' h w is (fun j hj => hi j (by simp [hj]))
theorem equalGroup' (d : Nat) (g g' : List Slt) (hg : g.length = 16) (hg' : g'.length = 16) (w : World) :
    (Op.equalIn (d + 3) 136 (.agg (gC g)) (.agg (gC g'))).run Tryz.prog w = .ok (decide (g = g')) w := by
  obtain ⟨i, hi, _, _, _⟩ := info_parts infoSlot
  have hc : Tryz.prog.cellsOf 90 = 3 := by kernel_rfl
  rw [run_equalIn_array (P := Tryz.prog) w (d + 2) (gC g) (gC g') Tryz.underlying136 hi, hc, eqItems_groups d g g' (by omega) w (List.range 16) (fun j hj => by rw [List.mem_range] at hj; omega)]
  have he : ((List.range 16).all fun i => sEq (g.getD i zS) (g'.getD i zS)) = decide (g = g') := ?_
  · rw [he]
  rw [Bool.eq_iff_iff, List.all_eq_true, decide_eq_true_iff]
  constructor
  · intro h
    apply List.ext_getElem (by omega)
    intro j h1 h2
    have := (sEq_iff _ _).1 (h j (by rw [List.mem_range]; omega))
    rw [List.getD_eq_getElem?_getD, List.getElem?_eq_getElem h1, List.getD_eq_getElem?_getD, List.getElem?_eq_getElem h2] at this
    exact this
  · rintro rfl j _
    exact sEq_self _
theorem equalGroup (g g' : List Slt) (hg : g.length = 16) (hg' : g'.length = 16) (w : World) :
    (Op.equalIn 10000 136 (.agg (gC g)) (.agg (gC g'))).run Tryz.prog w = .ok (decide (g = g')) w := equalGroup' 9997 g g' hg hg' w
theorem guardGroup (op : BinOp) (x y : Operand) (a b : Array Value) (w : World) : (eqGuard op 136 x y (.agg a) (.agg b)).run Tryz.prog w = .ok () w := run_eqGuard_agg w op _ x y a b (by kernel_rfl)
theorem setRow_new (w : World) (cs cs' : Array Value) (t : TypeId) : (w.alloc (.cells cs t)).setRow w.heap.size cs' = w.alloc (.cells cs' t) := by
  unfold World.setRow World.alloc
  congr 1
  apply Array.ext_getElem?
  intro i
  rw [Array.getElem?_modify, Array.getElem?_push, Array.getElem?_push]
  by_cases h : w.heap.size = i
  · subst h; simp
  · rw [if_neg h]
    by_cases h2 : i = w.heap.size
    · exact absurd h2.symm h
    · rw [if_neg h2, if_neg h2]
/-- a group stored whole into the block that has just been laid for it -/
theorem storeGroup (g : List Slt) (hg : g.length = 16) (n : Nat) (cs : Array Value) (hcs : cs.size = 48) (t : TypeId) (w : World) (hn : n = w.heap.size) :
    (Instr.storeAt 136 (.pointer (some ⟨n, 0, none⟩)) (.agg (gC g))).run Tryz.prog (w.alloc (.cells cs t)) = .ok () (w.alloc (.cells (gC g) t)) := by
  subst hn
  have h2 : ∀ w, (sizeOf 136).run Tryz.prog w = .ok 48 w := fun w => by kernel_rfl
  have hs : (gC g).size = 48 := by rw [gC_size, hg]
  have hw : (w.alloc (.cells cs t)).heap[w.heap.size]? = some (.cells cs t (0, 0)) := heap_alloc_new w _
  have hst := run_storeCells_at Tryz.prog w.heap.size 0 t (gC g).toList 0 cs (w.alloc (.cells cs t)) hw (by simp [hs, hcs]) (by
    intro v hv
    simp only [gC] at hv
    rw [List.mem_flatMap] at hv
    obtain ⟨s, _, hs⟩ := hv
    simp at hs
    rcases hs with rfl | rfl | rfl <;> rfl)
  simp only [Instr.storeAt, Instr.sureAddr, storeVar, Sem.run_bind, Sem.run_pure, Result.andThen_ok, h2]
  rw [if_neg (by simp [Value.cells, hs])]
  simp only [Value.cells]
  refine hst.trans ?_
  congr 1
  rw [setRow_new]
  congr 2
  rw [List.drop_eq_nil_of_le (by simp [hs, hcs])]
  simp
theorem loadGroup (g : List Slt) (hg : g.length = 16) (n : Nat) (t : TypeId) (w : World) (hn : n = w.heap.size) :
    (Instr.loadAt 136 (.pointer (some ⟨n, 0, none⟩))).run Tryz.prog (w.alloc (.cells (gC g) t)) = .ok (.agg (gC g)) (w.alloc (.cells (gC g) t)) := by
  subst hn
  simp only [Instr.loadAt, Instr.sureAddr, Sem.run_bind, Sem.run_pure, Result.andThen_ok]
  refine run_loadVar_row _ w.heap.size t 136 (gC g) (0, 0) _ (heap_alloc_new w _) Tryz.underlying136 rfl ?_
  rw [gC_size, hg]
  kernel_rfl
theorem allocGroup (z : Value) (w : World) : (Instr.alloc 136 true z).run Tryz.prog w = .ok (.pointer (some ⟨w.heap.size, 0, none⟩)) (w.alloc (.cells (gC (zG)) 136)) := by
  cases z <;> simp only [Instr.alloc, Sem.run_bind, zeroGroup, Result.andThen_ok, newVar, newRow, Value.cells, run_newObj_alloc, Sem.run_pure]
section
variable {ops : Array Oper} {rest : List Oper} {o : Oper} {a : Act} {Q : Exit → Act → World → Prop}
theorem wpList_allocGroup {w : World} (hg : o.guard = none) (ho : o.op = .alloc 136)
    (h : wpList Tryz.prog ops Q rest (a.put o.dst (.pointer (some ⟨w.heap.size, 0, none⟩))) (w.alloc (.cells (gC (zG)) 136))) : wpList Tryz.prog ops Q (o :: rest) a w :=
  wpList_plain hg fun K hK => by
    unfold Oper.wp execOp
    simp only [ho, Sem.run_bind, allocGroup, Result.andThen_ok, Sem.run_pure]
    exact hK _ _ h
theorem wpList_buildGroup {w : World} (hg : o.guard = none) (ho : o.op = .build 136 #[])
    (h : wpList Tryz.prog ops Q rest (a.put o.dst (.agg (gC (zG)))) w) : wpList Tryz.prog ops Q (o :: rest) a w :=
  wpList_plain hg fun K hK => by
    unfold Oper.wp execOp
    simp only [ho, List.map_toArray, List.map_nil, Sem.run_bind, buildGroup, Result.andThen_ok, Sem.run_pure]
    exact hK _ _ h
theorem wpList_storeGroup {w : World} {cs : Array Value} {t : TypeId} (hg : o.guard = none) (x y : Operand) (ho : o.op = .store 136 x y) (n : Nat) (hx : a.eval x = .pointer (some ⟨n, 0, none⟩)) (g : List Slt) (hy : a.eval y = .agg (gC g))
    (hn : n = w.heap.size) (hl : g.length = 16) (hcs : cs.size = 48) (h : wpList Tryz.prog ops Q rest (a.put o.dst undef) (w.alloc (.cells (gC g) t))) : wpList Tryz.prog ops Q (o :: rest) a (w.alloc (.cells cs t)) :=
  wpList_plain hg fun K hK => by
    unfold Oper.wp execOp
    simp only [ho, hx, hy, Sem.run_bind, storeGroup g hl n cs hcs t w hn, Result.andThen_ok, Sem.run_pure]
    exact hK _ _ h
theorem wpList_loadGroup {w : World} {g : List Slt} {t : TypeId} (hg : o.guard = none) (x : Operand) (ho : o.op = .load 136 x) (n : Nat) (hx : a.eval x = .pointer (some ⟨n, 0, none⟩))
    (hn : n = w.heap.size) (hl : g.length = 16) (h : wpList Tryz.prog ops Q rest (a.put o.dst (.agg (gC g))) (w.alloc (.cells (gC g) t))) : wpList Tryz.prog ops Q (o :: rest) a (w.alloc (.cells (gC g) t)) :=
  wpList_plain hg fun K hK => by
    unfold Oper.wp execOp
    simp only [ho, hx, Sem.run_bind, loadGroup g hl n t w hn, Result.andThen_ok, Sem.run_pure]
    exact hK _ _ h
end
theorem wpStill_loadGroup {ops : Array Oper} {w : World} {Q : Act → Prop} {a : Act} {o : Oper} {rest : List Oper} {g : List Slt} {t : TypeId} (hg : o.guard = none) (x : Operand) (ho : o.op = .load 136 x) (n : Nat)
    (hx : a.eval x = .pointer (some ⟨n, 0, none⟩)) (hn : n = w.heap.size) (hl : g.length = 16) (h : wpStill Tryz.prog ops (w.alloc (.cells (gC g) t)).drew Q rest (a.put o.dst (.agg (gC g)))) : wpStill Tryz.prog ops (w.alloc (.cells (gC g) t)).drew Q (o :: rest) a :=
  wpStill_value hg _ (by
    unfold execOp
    have := loadGroup g hl n t w.drew hn
    simp only [ho, hx, Sem.run_bind]
    rw [show (w.alloc (.cells (gC g) t)).drew = w.drew.alloc (.cells (gC g) t) from rfl, this]
    rfl) h
theorem flat_take (g : List Slt) : ∀ i, (g.flatMap slotC).take (i * 3) = (g.take i).flatMap slotC := by
  induction g with
  | nil => intro i; simp
  | cons s g ih =>
    intro i
    cases i with
    | zero => simp
    | succ i =>
      rw [List.flatMap_cons, List.take_succ_cons, List.flatMap_cons, ← ih i]
      have : (i + 1) * 3 = (slotC s).length + i * 3 := by simp; omega
      rw [this, List.take_length_add_append]
theorem flat_drop (g : List Slt) : ∀ i, (g.flatMap slotC).drop (i * 3) = (g.drop i).flatMap slotC := by
  induction g with
  | nil => intro i; simp
  | cons s g ih =>
    intro i
    cases i with
    | zero => simp
    | succ i =>
      rw [List.flatMap_cons, List.drop_succ_cons, ← ih i]
      have : (i + 1) * 3 = (slotC s).length + i * 3 := by simp; omega
      rw [this, List.drop_length_add_append]
theorem flat_set (g : List Slt) (i : Nat) (hi : i < g.length) (s : Slt) : (g.set i s).flatMap slotC = (g.flatMap slotC).take (i * 3) ++ slotC s ++ (g.flatMap slotC).drop (i * 3 + 3) := by
  have e : i * 3 + 3 = (i + 1) * 3 := by omega
  rw [e, flat_take, flat_drop, List.set_eq_take_append_cons_drop, if_pos hi]
  simp
theorem storeSlot (g : List Slt) (i : Nat) (hi : i < g.length) (n : Nat) (k h : Int) (o : Bool) (t : TypeId) (w : World) (hn : n = w.heap.size) :
    (Instr.storeAt 90 (.pointer (some ⟨n, i * 3, none⟩)) (.agg #[.int .i64 k, .int .i64 h, .bool o])).run Tryz.prog (w.alloc (.cells (gC g) t)) = .ok () (w.alloc (.cells (gC (g.set i (k, h, o))) t)) := by
  subst hn
  have h2 : ∀ w, (sizeOf 90).run Tryz.prog w = .ok 3 w := fun w => by kernel_rfl
  have hw : (w.alloc (.cells (gC g) t)).heap[w.heap.size]? = some (.cells (gC g) t (0, 0)) := heap_alloc_new w _
  have hst := run_storeCells_at Tryz.prog w.heap.size (i * 3) t (slotC (k, h, o)) 0 (gC g) (w.alloc (.cells (gC g) t)) hw (by simp [gC_size]; omega) (by
    intro v hv
    simp at hv
    rcases hv with rfl | rfl | rfl <;> rfl)
  simp only [Instr.storeAt, Instr.sureAddr, storeVar, Sem.run_bind, Sem.run_pure, Result.andThen_ok, h2]
  rw [if_neg (by simp [Value.cells])]
  simp only [Value.cells]
  refine hst.trans ?_
  rw [setRow_new]
  congr 3
  rw [show gC (g.set i (k, h, o)) = ((g.set i (k, h, o)).flatMap slotC).toArray from rfl, flat_set g i hi]
  simp [gC]
theorem wpList_storeSlot {ops : Array Oper} {rest : List Oper} {o : Oper} {a : Act} {Q : Exit → Act → World → Prop} {w : World} {g : List Slt} {t : TypeId} (hg : o.guard = none) (x y : Operand) (ho : o.op = .store 90 x y)
    (n m : Nat) (hx : a.eval x = .pointer (some ⟨n, m, none⟩)) (i : Nat) (hm : m = i * 3) (k h : Int) (b : Bool) (hy : a.eval y = .agg #[.int .i64 k, .int .i64 h, .bool b])
    (hn : n = w.heap.size) (hi : i < g.length) (hK : wpList Tryz.prog ops Q rest (a.put o.dst undef) (w.alloc (.cells (gC (g.set i (k, h, b))) t))) : wpList Tryz.prog ops Q (o :: rest) a (w.alloc (.cells (gC g) t)) :=
  wpList_plain hg fun K hK' => by
    subst hm
    unfold Oper.wp execOp
    simp only [ho, hx, hy, Sem.run_bind, storeSlot g i hi n k h b t w hn, Result.andThen_ok, Sem.run_pure]
    exact hK' _ _ hK
attribute [irreducible] gC
end Go.Proofs.YtilhbjjjmdnjmaaGreat
