/-
  A range over a map, with rounds that write elsewhere, or delete the key that has come. No program in sight.
-/
import Derived.Test.YtiifmakhfpllnaaM00
import Derived.Maps.RangeWalk
import Derived.Test.YtiifmakhfpllnaaM01
namespace Go.Proofs.Ytiifmakhfpllnaa
open Go.RowKit Go.Maps
open Go.ChangeMaps (setBlock)

/-- A loop over the map in block mb, its iterator in block rb: the keys of L are still to come, cnt of them. -/
def RngM (P : Program) (K : TypeId) (w : World) (mb rb : Nat) (m : Value → Option Value) (L : Value → Prop) (cnt : Nat) : Prop :=
  ∃ es clock since seen c0, mapAt w mb = some (es, clock) ∧ IsM P K es clock m ∧ w.heap[rb]? = some (.mapIter (some mb) since seen c0) ∧ (∀ x ∈ es.toList, x.born < since) ∧ (leftOf es seen).size = cnt ∧
    (∀ k, L k ↔ ∃ e ∈ es.toList, e.key = k ∧ seen.contains e.born = false) ∧ since ≤ c0 ∧ since ≤ clock
theorem setBlock_fr (w : World) (b : Nat) (o : Obj) : Fr [b] w (setBlock w b o) :=
  ⟨rfl, rfl, rfl, by simp [setBlock], fun k _ hn => by simp [setBlock, Array.getElem?_setIfInBounds]; intro e; exact absurd (by simp [e]) hn⟩
section
variable {P : Program} {K : TypeId} {w : World} {mb rb cnt : Nat} {m : Value → Option Value} {L : Value → Prop}
theorem RngM.map (h : RngM P K w mb rb m L cnt) : ∃ es clock, mapAt w mb = some (es, clock) ∧ IsM P K es clock m := by
  obtain ⟨es, clock, _, _, _, h1, h2, _⟩ := h
  exact ⟨es, clock, h1, h2⟩
theorem RngM.lt (h : RngM P K w mb rb m L cnt) : mb < w.heap.size ∧ rb < w.heap.size := by
  obtain ⟨es, clock, since, seen, c0, h1, _, h3, _⟩ := h
  exact ⟨mapAt_lt h1, (Array.getElem?_eq_some_iff.1 h3).1⟩
theorem RngM.ne (h : RngM P K w mb rb m L cnt) : rb ≠ mb := by
  obtain ⟨es, clock, since, seen, c0, h1, _, h3, _⟩ := h
  rintro rfl
  rw [mapAt_some.1 h1] at h3
  cases h3
theorem RngM.left (h : RngM P K w mb rb m L cnt) : w.rangeLeft mb rb = cnt := by
  obtain ⟨es, clock, since, seen, c0, h1, _, h3, _, h5, _⟩ := h
  simp only [World.rangeLeft, mapAt_some.1 h1, h3]
  exact h5
theorem RngM.fr {M : List Nat} {w' : World} (h : RngM P K w mb rb m L cnt) (hf : Fr M w w') (h1 : mb ∉ M) (h2 : rb ∉ M) : RngM P K w' mb rb m L cnt := by
  obtain ⟨es, clock, since, seen, c0, a1, a2, a3, rest⟩ := h
  exact ⟨es, clock, since, seen, c0, mapAt_fr a1 hf h1, a2, (hf.block rb (Array.getElem?_eq_some_iff.1 a3).1 h2).trans a3, rest⟩
theorem RngM.fr0 {w' : World} (h : RngM P K w mb rb m L cnt) (hf : Fr [] w w') : RngM P K w' mb rb m L cnt := h.fr hf (by simp) (by simp)
theorem RngM.of_iff {L' : Value → Prop} (h : RngM P K w mb rb m L cnt) (hL : ∀ k, L k ↔ L' k) : RngM P K w mb rb m L' cnt := by
  obtain ⟨es, clock, since, seen, c0, a1, a2, a3, a4, a5, a6, rest⟩ := h
  exact ⟨es, clock, since, seen, c0, a1, a2, a3, a4, a5, fun k => (hL k).symm.trans (a6 k), rest⟩
/-- 'range m' -/
theorem wpList_range_isM {ops : Array Oper} {rest : List Oper} {o : Oper} {a : Act} {Q : Exit → Act → World → Prop} (hg : o.guard = none) (x : Operand) (T : TypeId) (ho : o.op = .range T x) {E : TypeId} (ht : P.underlying T = some (.map K E))
    {es : Array MapEntry} {clock : Nat} (hi : IsM P K es clock m) (mb : Nat) (hx : a.eval x = .map (some mb)) (hm : mapAt w mb = some (es, clock))
    (hK : RngM P K (w.alloc (.mapIter (some mb) clock #[] clock)) mb w.heap.size m (fun k => (m k).isSome = true) es.size → wpList P ops Q rest (a.put o.dst (.pointer (some ⟨w.heap.size, 0, none⟩))) (w.alloc (.mapIter (some mb) clock #[] clock))) : wpList P ops Q (o :: rest) a w := by
  refine wpList_run hg (w' := w.alloc (.mapIter (some mb) clock #[] clock)) (v := .pointer (some ⟨w.heap.size, 0, none⟩)) ?_ ?_
  · simp only [execOp, ho, hx, Sem.run_bind, run_range_map w T K E mb es clock ht (mapAt_some.1 hm), Result.andThen_ok, Sem.run_pure]
  · refine hK ⟨es, clock, clock, #[], clock, ?_, hi, heap_alloc_new _ _, hi.born, by simp [leftOf], fun k => ?_, Nat.le_refl _, Nat.le_refl _⟩
    · rw [mapAt_alloc _ (mapAt_lt hm)]; exact hm
    · constructor
      · intro h
        obtain ⟨v, hv⟩ := Option.isSome_iff_exists.1 h
        obtain ⟨e, he, h1, _⟩ := (hi.get k v).1 hv
        exact ⟨e, he, h1, by simp⟩
      · rintro ⟨e, he, rfl, _⟩
        rw [(hi.get e.key e.val).2 ⟨e, he, rfl, rfl⟩]; rfl
theorem apart_key {es : Array MapEntry} (h : es.toList.Pairwise (fun a b => a.key ≠ b.key)) {x y : MapEntry} (hx : x ∈ es.toList) (hy : y ∈ es.toList) (hk : x.key = y.key) : x = y := entry_eq_of_key h hx hy hk
/-- the step -/
theorem wpList_next_isM {ops : Array Oper} {rest : List Oper} {o : Oper} {a : Act} {Q : Exit → Act → World → Prop} (hg : o.guard = none) (it : Operand) (hop : o.op = Op.next it false) (mb rb : Nat)
    (hit : a.eval it = .pointer (some ⟨rb, 0, none⟩)) (h : RngM P K w mb rb m L cnt)
    (hDone : (∀ k, ¬ L k) → wpList P ops Q rest (a.put o.dst (.tuple #[.bool false])) w)
    (hMore : ∀ (k v : Value) (w' : World) (cnt' : Nat), L k → m k = some v → RngM P K w' mb rb m (fun x => L x ∧ x ≠ k) cnt' → cnt' < cnt → Fr [rb] w w' → w'.heap.size = w.heap.size →
      (Instr.entry (.pointer (some ⟨rb, 0, none⟩))).run P w' = .ok (.tuple #[k, v]) w' → wpList P ops Q rest (a.put o.dst (.tuple #[.bool true, k, v])) w') : wpList P ops Q (o :: rest) a w := by
  have hne := h.ne
  obtain ⟨es, clock, since, seen, c0, a1, a2, a3, hold, rfl, a6, hsc, hsk⟩ := h
  have hb := mapAt_some.1 a1
  refine wpList_plain hg fun K' hK' => ?_
  unfold Oper.wp
  rcases run_next_at (P := P) w o.type rb mb since c0 seen es clock a3 hb hold hsc with ⟨h0, hrun⟩ | ⟨e, he, w1, hal, hrun⟩
  · simp [execOp, hop, hit, hrun, Result.andThen]
    refine hK' _ _ (hDone fun k hk => ?_)
    obtain ⟨x, hx, _, hs⟩ := (a6 k).1 hk
    have := all_seen es seen h0 x hx
    rw [hs] at this
    cases this
  · simp [execOp, hop, hit, hrun, Result.andThen]
    obtain ⟨hem, hes⟩ := mem_left he
    have hf1 : Fr [rb] w (setBlock w1 rb (.mapIter (some mb) since (seen.push e.born) clock)) := by
      rcases hal with rfl | rfl
      · exact setBlock_fr _ _ _
      · exact ((Fr.refl [rb] w).drew).trans' (setBlock_fr _ _ _)
    have hsz : (setBlock w1 rb (.mapIter (some mb) since (seen.push e.born) clock)).heap.size = w.heap.size := by
      rcases hal with rfl | rfl <;> simp [setBlock]
    have hrb : rb < w.heap.size := (Array.getElem?_eq_some_iff.1 a3).1
    have hr' : (setBlock w1 rb (.mapIter (some mb) since (seen.push e.born) clock)).heap[rb]? = some (.mapIter (some mb) since (seen.push e.born) clock) := by
      rcases hal with rfl | rfl <;> simp [setBlock, hrb]
    have hm' := mapAt_fr a1 hf1 (by simp; exact fun e => hne e.symm)
    refine hK' _ _ (hMore e.key e.val _ _ ((a6 e.key).2 ⟨e, hem, rfl, hes⟩) ((a2.get _ _).2 ⟨e, hem, rfl, rfl⟩) ⟨es, clock, since, seen.push e.born, clock, hm', a2, hr', hold, rfl, fun k => ?_, hsk, hsk⟩ (left_shrinks es seen e he) hf1 hsz ?_)
    · show (L k ∧ k ≠ e.key) ↔ _
      rw [a6]
      constructor
      · rintro ⟨⟨x, hx, rfl, hs⟩, hk⟩
        refine ⟨x, hx, rfl, ?_⟩
        rw [contains_push, hs]
        have : ¬ x.born = e.born := fun hb' => hk (by
          have hinj := born_inj (List.pairwise_map.2 a2.stamps) hx hem hb'
          rw [hinj])
        simp [this]
      · rintro ⟨x, hx, rfl, hs⟩
        rw [contains_push] at hs
        simp only [Bool.or_eq_false_iff] at hs
        refine ⟨⟨x, hx, rfl, hs.1⟩, fun hk => ?_⟩
        have := apart_key a2.apart hx hem hk
        subst this
        simp at hs
    · exact run_entry_at _ rb mb since seen es clock e hr' (mapAt_some.1 hm') hem (List.pairwise_map.2 a2.stamps)
/-- 'delete(m, k)' in the round in which k has come -/
theorem wpList_delete_rng {ops : Array Oper} {rest : List Oper} {o : Oper} {a : Act} {Q : Exit → Act → World → Prop} (hg : o.guard = none) (x y : Operand) (T A2 : TypeId)
    (ho : o.op = .call { callee := .builtin .delete, args := #[x, y], argTypes := #[T, A2] }) {E : TypeId} (ht : P.underlying T = some (.map K E)) (Ky : Keyed P K) (mb rb : Nat) (h : RngM P K w mb rb m L cnt)
    (hx : a.eval x = .map (some mb)) (k : Value) (hy : a.eval y = k) {lx : Lit} (hk : keyOf P K k = some lx) (hL : ¬ L k)
    (hK : ∀ w' cnt', RngM P K w' mb rb (upd m k none) L cnt' → cnt' ≤ cnt → Fr [mb] w w' → w'.heap.size = w.heap.size → wpList P ops Q rest (a.put o.dst (.tuple #[])) w') : wpList P ops Q (o :: rest) a w := by
  have hne := h.ne
  obtain ⟨es, clock, since, seen, c0, a1, a2, a3, hold, rfl, a6, hsc, hsk⟩ := h
  obtain ⟨es', hr, hi, hsub⟩ := run_delete_isM (P := P) (A2 := A2) (ty := o.type) ht Ky a2 hk w a1
  have hf := putMap_fr w mb es' clock
  refine wpList_run hg (w' := putMap w mb es' clock) (v := .tuple #[]) ?_ (hK _ _ ⟨es', clock, since, seen, c0, mapAt_putMap (mapAt_lt a1) _ _, hi, (hf.block rb (Array.getElem?_eq_some_iff.1 a3).1 (by simp; exact hne)).trans a3, fun x hx => hold x (hsub.subset hx), rfl, fun q => ?_, hsc, hsk⟩ ?_ hf (by simp [putMap]))
  · simp only [ho, execOp, resolve, invoke, builtin, Sem.run_bind, Sem.run_pure, Result.andThen_ok, List.map_toArray, List.map_cons, List.map_nil, hx, hy, hr]
  · rw [a6]
    constructor
    · rintro ⟨z, hz, rfl, hs⟩
      have hzk : z.key ≠ k := by
        rintro rfl
        exact hL ((a6 _).2 ⟨z, hz, rfl, hs⟩)
      have h1 := (a2.get z.key z.val).2 ⟨z, hz, rfl, rfl⟩
      rw [← upd_other m none hzk] at h1
      obtain ⟨z', hz', hk', _⟩ := (hi.get _ _).1 h1
      have := apart_key a2.apart (hsub.subset hz') hz hk'
      subst this
      exact ⟨z', hz', rfl, hs⟩
    · rintro ⟨z, hz, rfl, hs⟩
      exact ⟨z, hsub.subset hz, rfl, hs⟩
  · have e1 : ∀ a : Array MapEntry, (leftOf a seen).size = (a.toList.filter fun e => !seen.contains e.born).length := fun a => by
      unfold leftOf
      rw [← Array.toList_filter, Array.length_toList]
    rw [e1, e1]
    exact (hsub.filter _).length_le
end
end Go.Proofs.Ytiifmakhfpllnaa

namespace Go.Proofs.Ytiifmakhfpllnaa
open Go.RowKit Go.Maps
attribute [local go_sem] mapAt_alloc mapAt_setCell mapAt_drew mapAt_drewN

theorem resize1_calls (tb mb S g cb : Nat) (k : Int) (v : Value) (w : World) (B : Blk w tb [.int .i64 S, .int .i64 g, .map (some mb)] 75) (C : Blk w cb [.pointer (some ⟨tb, 0, none⟩)] 34) (hs : S ≤ 4096) (hg : 0 < g ∧ g ≤ 64) :
    Calls Try.prog 59 #[.int .i64 k, v, .pointer (some ⟨cb, 0, none⟩)] w fun e w' => e = .returned (.bool (decide ((gran S g : Int) ≤ k))) ∧ Fr [] w w' := by
  have cb0 := C.cell
  go_enter Try.func59, Try.ntmps59
  go_wp2_with fail
  refine (granulesB_calls tb S g _ _ B hs hg).mono ?_
  rintro r w1 ⟨rfl, hf⟩
  go_wp2
  go_ret
  exact ⟨rfl, hf⟩
def cutB (l : List Bool) (G : Nat) : List Bool := (List.range G).map fun k => l.getD k false
theorem cutB_getD (l : List Bool) (G k : Nat) : (cutB l G).getD k false = if k < G then l.getD k false else false := by
  unfold cutB
  rw [List.getD_eq_getElem?_getD, List.getElem?_map]
  by_cases h : k < G
  · rw [List.getElem?_range h, if_pos h]; rfl
  · rw [List.getElem?_eq_none (by simp; omega), if_neg h]; rfl
def keepK (G : Nat) : Value → Prop
  | .int .i64 k => k < G
  | _ => False
theorem bitM_int' (l : List Bool) (x v : Value) (h : bitM l x = some v) : ∃ k : Nat, x = .int .i64 (k : Int) ∧ v = .int .i64 1 ∧ k < l.length := by
  cases x with
  | int q k =>
    cases q with
    | i64 =>
      rw [bitM_int] at h
      by_cases hc : 0 ≤ k ∧ l.getD k.toNat false = true
      · rw [if_pos hc] at h
        refine ⟨k.toNat, by rw [Int.toNat_of_nonneg hc.1], (Option.some.inj h).symm, ?_⟩
        by_cases hl : k.toNat < l.length
        · exact hl
        · have := hc.2
          rw [List.getD_eq_getElem?_getD, List.getElem?_eq_none (by omega)] at this
          cases this
      · rw [if_neg hc] at h
        cases h
    | _ => cases h
  | _ => cases h
theorem bitM_cut (l : List Bool) (G : Nat) (x : Value) : (keepK G x → bitM (cutB l G) x = bitM l x) ∧ (¬ keepK G x → bitM (cutB l G) x = none) := by
  cases x with
  | int q k =>
    cases q with
    | i64 =>
      rw [bitM_int, bitM_int, cutB_getD]
      constructor
      · intro h
        have h : k < G := h
        by_cases h0 : 0 ≤ k
        · rw [if_pos (show k.toNat < G by omega)]
        · rw [if_neg (fun h => h0 h.1), if_neg (fun h => h0 h.1)]
      · intro h
        have h : ¬ k < G := h
        rw [if_neg (show ¬ k.toNat < G by omega), if_neg (by simp)]
    | _ => exact ⟨fun h => h.elim, fun _ => rfl⟩
  | _ => exact ⟨fun h => h.elim, fun _ => rfl⟩
def MidM (l : List Bool) (G : Nat) (L : Value → Prop) (m : Value → Option Value) : Prop := ∀ x, ((L x ∨ keepK G x) → m x = bitM l x) ∧ (¬ (L x ∨ keepK G x) → m x = none)
theorem MidM.start (l : List Bool) (G : Nat) : MidM l G (fun k => (bitM l k).isSome = true) (bitM l) := fun x => ⟨fun _ => rfl, fun h => by
  cases hb : bitM l x with
  | none => rfl
  | some v => exact absurd (.inl (by simp [hb])) h⟩
theorem MidM.keep {l : List Bool} {G : Nat} {L : Value → Prop} {m : Value → Option Value} (h : MidM l G L m) {k : Value} (hk : keepK G k) : MidM l G (fun x => L x ∧ x ≠ k) m := fun x => by
  refine ⟨fun hx => (h x).1 (hx.imp (fun h => h.1) id), fun hx => ?_⟩
  by_cases e : x = k
  · subst e; exact absurd (.inr hk) hx
  · exact (h x).2 (fun h' => hx (h'.imp (fun h => ⟨h, e⟩) id))
theorem MidM.drop {l : List Bool} {G : Nat} {L : Value → Prop} {m : Value → Option Value} (h : MidM l G L m) {k : Value} (hk : ¬ keepK G k) : MidM l G (fun x => L x ∧ x ≠ k) (upd m k none) := fun x => by
  by_cases e : x = k
  · subst e
    exact ⟨fun hx => (hx.elim (fun h => absurd rfl h.2) (fun h => absurd h hk)), fun _ => upd_same _ _ _⟩
  · rw [upd_other _ _ e]
    exact ⟨fun hx => (h x).1 (hx.imp (fun h => h.1) id), fun hx => (h x).2 (fun h' => hx (h'.imp (fun h => ⟨h, e⟩) id))⟩
theorem MidM.done {l : List Bool} {G : Nat} {L : Value → Prop} {m : Value → Option Value} (h : MidM l G L m) (hL : ∀ k, ¬ L k) : m = bitM (cutB l G) := by
  funext x
  by_cases hk : keepK G x
  · rw [(bitM_cut l G x).1 hk, (h x).1 (.inr hk)]
  · rw [(bitM_cut l G x).2 hk, (h x).2 (fun h' => h'.elim (hL x) hk)]
set_option maxRecDepth 100000 in
set_option maxHeartbeats 1600000 in
theorem DeleteFunc_calls (tb mb S g cb : Nat) (l : List Bool) (w : World) (B : Blk w tb [.int .i64 S, .int .i64 g, .map (some mb)] 75) (C : Blk w cb [.pointer (some ⟨tb, 0, none⟩)] 34) (hs : S ≤ 4096) (hg : 0 < g ∧ g ≤ 64)
    (hl : l.length ≤ 4096) {es : Array MapEntry} {clock : Nat} (hm : mapAt w mb = some (es, clock)) (hi : IsM Try.prog 3 es clock (bitM l)) :
    Calls Try.prog 58 #[.map (some mb), .func (.func 59) #[] #[.pointer (some ⟨cb, 0, none⟩)]] w
      fun e w' => (∃ v, e = .returned v) ∧ Fr [mb] w w' ∧ ∃ es' clock', mapAt w' mb = some (es', clock') ∧ IsM Try.prog 3 es' clock' (bitM (cutB l (gran S g))) := by
  have hmt : mb ≠ tb := by rintro rfl; have := (mapAt_some.1 hm).symm.trans B; cases this
  have hmc : mb ≠ cb := by rintro rfl; have := (mapAt_some.1 hm).symm.trans C; cases this
  have hBlt := B.lt
  have hClt := C.lt
  have hMlt := mapAt_lt hm
  have hle := gran_le hs hg.1
  go_enter Try.func58, Try.ntmps58
  go_wp2_with (first
    | (at_range; refine wpList_range_isM rfl _ _ rfl Try.underlying73 hi mb rfl hm ?_; intro hrg0)
    | go_in)
  go_frame
  have hF0 : Fr [mb] w (w.alloc (.mapIter (some mb) clock #[] clock)) := (Fr.refl _ _).alloc _
  go_loopw [4, 5] (fun _ _ wr => ∃ L cnt m, RngM Try.prog 3 wr mb w.heap.size m L cnt ∧ MidM l (gran S g) L m ∧ (∀ x, L x → (bitM l x).isSome = true) ∧ Fr [mb] w wr) (fun _ _ wr => wr.rangeLeft mb w.heap.size)
  case atStart => exact ⟨_, _, _, hrg0, MidM.start _ _, fun _ h => h, hF0⟩
  case round =>
    obtain ⟨L, cnt, m, hrg, hM, hLs, hF⟩ := hrel
    have hleft := hidIt hrg.left
    generalize wr = wo at *
    go_wp2_with (first
      | (at_next; refine wpList_next_isM rfl _ rfl mb w.heap.size rfl hrg ?_ ?_)
      | go_in)
    · intro hL
      go_wp2
      refine bodyPost_end (v := .tuple #[]) (results_none rfl _ _ _) rfl ⟨⟨_, rfl⟩, hF, ?_⟩
      obtain ⟨es', clock', h1, h2⟩ := hrg.map
      rw [hM.done hL] at h2
      exact ⟨es', clock', h1, h2⟩
    · intro k v w1 cnt1 hLk hmk hrg1 hlt hf1 hsz1 hen
      rw [(hM k).1 (.inl hLk)] at hmk
      obtain ⟨n, rfl, rfl, hnl⟩ := bitM_int' l k v hmk
      have hF1 : Fr [mb] w w1 := hF.trans1 hf1 (Nat.le_refl _)
      have B1 := B.fr hF1 (by simp; exact fun e => hmt e.symm)
      have C1 := C.fr hF1 (by simp; exact fun e => hmc e.symm)
      have hkey := keyI (k := (n : Int)) (by omega) (by omega)
      have hK1 := fun h => hidIt (hM.keep (k := .int .i64 (n : Int)) h)
      have hK2 := fun h => hidIt (hM.drop (k := .int .i64 (n : Int)) h)
      have hLs' : ∀ x, (L x ∧ x ≠ .int .i64 (n : Int)) → (bitM l x).isSome = true := fun x h => hLs x h.1
      by_cases hd : gran S g ≤ n
      · have hK2 := hK2 (show ¬ (n : Int) < (gran S g : Nat) by omega)
        have hd' : decide ((gran S g : Int) ≤ (n : Int)) = true := by simp; exact hd
        clear hK1 hM hmk
        go_wp2_with fail
        refine (resize1_calls tb mb S g cb n _ _ B1 C1 hs hg).mono ?_
        rintro r w2 ⟨rfl, hf2⟩
        rw [hd']
        have hrg2 := hrg1.fr0 hf2
        clear hen
        go_wp2_with (first
          | (at_delete; refine wpList_delete_rng rfl _ _ 73 3 rfl Try.underlying73 keyInt mb w.heap.size hrg2 rfl (.int .i64 (n : Int)) rfl hkey (fun h => h.2 rfl) ?_; intro w3 cnt3 hrg3 hle3 hf3 hsz3; go_frame)
          | go_in)
        go_roundw
        case rel => exact ⟨_, _, _, hrg3, hK2.out, hLs', (hF1.trans0 hf2).trans' hf3⟩
        case measure => rw [hrg3.left, hleft.out]; omega
      · have hK1 := hK1 (show (n : Int) < (gran S g : Nat) by omega)
        have hd' : decide ((gran S g : Int) ≤ (n : Int)) = false := by simp; omega
        clear hK2 hM hmk
        go_wp2_with fail
        refine (resize1_calls tb mb S g cb n _ _ B1 C1 hs hg).mono ?_
        rintro r w2 ⟨rfl, hf2⟩
        rw [hd']
        have hrg2 := hrg1.fr0 hf2
        clear hen
        go_wp2
        go_roundw
        case rel => exact ⟨_, _, _, hrg2, hK1.out, hLs', hF1.trans0 hf2⟩
        case measure => rw [hrg2.left, hleft.out]; omega
end Go.Proofs.Ytiifmakhfpllnaa

namespace Go.Proofs.Ytiifmakhfpllnaa
open Go.RowKit Go.Maps
attribute [local go_sem] mapAt_alloc mapAt_setCell mapAt_drew mapAt_drewN

def rzB (S g : Nat) (l : List Bool) (n : Nat) : List Bool := if S < n then bSet n g (cutB l (gran n g)) S (n - S) else cutB l (gran n g)
theorem cutB_len (l : List Bool) (G : Nat) : (cutB l G).length = G := by simp [cutB]
set_option maxHeartbeats 400000 in
theorem Resize_no (tb mb S g : Nat) (l : List Bool) (s : Int) (w : World) (_ : BitW w tb mb S g l) (hs : okSec s = false) :
    Calls Try.prog 26 #[.pointer (some ⟨tb, 0, none⟩), .int .i64 s] w fun r w' => r = .returned (.int .i64 1) ∧ Fr [] w w' := by
  go_enter Try.func26, Try.ntmps26
  go_wp2_with fail
  refine (right_calls _ _).mono ?_
  rintro e w1 ⟨rfl, rfl⟩
  rw [hs]
  go_wp2
  go_ret
  exact ⟨rfl, (Fr.refl _ _).alloc _⟩
set_option maxRecDepth 100000 in
set_option maxHeartbeats 1600000 in
theorem Resize_yes (tb mb S g : Nat) (l : List Bool) (n : Nat) (w : World) (h : BitW w tb mb S g l) (hn : n ≤ 4096) :
    Calls Try.prog 26 #[.pointer (some ⟨tb, 0, none⟩), .int .i64 (n : Int)] w fun r w' => r = .returned (.int .i64 0) ∧ BitW w' tb mb n g (rzB S g l n) ∧ Fr [tb, mb] w w' := by
  have hS := h.size
  have hg := h.grain
  have hlen := h.len
  have hle := gran_le h.size hg.1
  obtain ⟨hlt, hmlt⟩ := h.lt
  have hne := h.ne
  have hok : okSec n = true := by simp [okSec]; omega
  have B2 := Blk.new w [.pointer (some ⟨tb, 0, none⟩)] 34
  have c2 := B2.cell
  have B0 := h.blk.alloc (.cells #[.pointer (some ⟨tb, 0, none⟩)] 34)
  have ct := B0.cell
  have ft := B0.frozen
  obtain ⟨es, clock, hm, hi⟩ := h.map
  have Hrz : Hid (rzB S g l n = if S < n then bSet n g (cutB l (gran n g)) S (n - S) else cutB l (gran n g)) := hidIt (by unfold rzB; rfl)
  go_enter Try.func26, Try.ntmps26
  go_wp2_with fail
  refine (right_calls _ _).mono ?_
  rintro e w1 ⟨rfl, rfl⟩
  rw [hok]
  have Bn := (h.blk.setCell 0 (.int .i64 (n : Int))).alloc (.cells #[.pointer (some ⟨tb, 0, none⟩)] 34)
  have Cn := Blk.new' (w := w.setCell ⟨tb, 0, none⟩ (.int .i64 (n : Int))) (n := w.heap.size) (by simp) [.pointer (some ⟨tb, 0, none⟩)] 34
  have cn := Bn.cell
  have dn := Cn.cell
  simp only [List.set_cons_zero] at Bn cn
  have hfn : Fr [tb] w ((w.setCell ⟨tb, 0, none⟩ (.int .i64 (n : Int))).alloc (.cells #[.pointer (some ⟨tb, 0, none⟩)] 34)) := ((Fr.refl _ w).setCell (.inl (by simp)) _).alloc _
  have hmn := mapAt_fr hm hfn (by simp; exact fun e => hne e.symm)
  go_wp2_with fail
  refine (DeleteFunc_calls tb mb n g w.heap.size l _ Bn Cn hn hg (by omega) hmn hi).mono ?_
  rintro r w2 ⟨⟨v, rfl⟩, hf2, es', clock', hm2, hi2⟩
  have hF2 : Fr [tb, mb] w w2 := (hfn.mono (by simp)).trans hf2 (by simp)
  have W2 : BitW w2 tb mb n g (cutB l (gran n g)) := ⟨Bn.fr hf2 (by simp; exact hne), hn, hg, cutB_len _ _, es', clock', hm2, hi2⟩
  have C2 := (Cn.fr hf2 (by simp; omega)).cell
  clear hfn hmn hm hi hi2 hm2
  by_cases hlt2 : S < n
  · rw [if_pos hlt2] at Hrz
    have e1 : (n : Int) - S = ((n - S : Nat) : Int) := by omega
    go_wp2_with fail
    refine (Set_yes tb mb n g _ S (n - S) _ W2 (by omega)).mono ?_
    rintro r w3 ⟨rfl, hW3, hf3⟩
    go_wp2
    go_ret
    exact ⟨rfl, by rw [Hrz.out]; exact hW3, hF2.trans hf3 (by simp)⟩
  · rw [if_neg hlt2] at Hrz
    go_wp2
    go_ret
    exact ⟨rfl, by rw [Hrz.out]; exact W2, hF2⟩
instance (S : Nat) (f n : Int) : Decidable (insideB S f n) := inferInstanceAs (Decidable (_ ∧ _ ∧ _ ∧ _))
/-- a call of a script: what there is behind it, and what it answers -/
def doS (g : Nat) (st : Nat × List Bool) (o : Int × Int × Int) : (Nat × List Bool) × Int :=
  if o.1 = 0 then (if insideB st.1 o.2.1 o.2.2 then ((st.1, bSet st.1 g st.2 o.2.1.toNat o.2.2.toNat), 0) else (st, 1))
  else if o.1 = 1 then (if insideB st.1 o.2.1 o.2.2 then ((st.1, bClear st.1 g st.2 o.2.1.toNat o.2.2.toNat), 0) else (st, 1))
  else if o.1 = 2 then (if okSec o.2.2 = true then ((o.2.2.toNat, rzB st.1 g st.2 o.2.2.toNat), 0) else (st, 1))
  else (st, 0)
theorem Set_calls (tb mb S g : Nat) (l : List Bool) (f n : Int) (w : World) (h : BitW w tb mb S g l) (fw : -9223372036854775808 ≤ n ∧ n ≤ 9223372036854775807) :
    Calls Try.prog 25 #[.pointer (some ⟨tb, 0, none⟩), .int .i64 f, .int .i64 n] w
      fun r w' => r = .returned (.int .i64 (doS g (S, l) (0, f, n)).2) ∧ BitW w' tb mb (doS g (S, l) (0, f, n)).1.1 g (doS g (S, l) (0, f, n)).1.2 ∧ Fr [mb] w w' := by
  by_cases hin : insideB S f n
  · obtain ⟨f, rfl⟩ := Int.eq_ofNat_of_zero_le hin.2.1
    obtain ⟨n, rfl⟩ := Int.eq_ofNat_of_zero_le hin.1
    have e : doS g (S, l) (0, (f : Int), (n : Int)) = ((S, bSet S g l f n), 0) := by simp [doS, hin]
    rw [e]
    exact Set_yes tb mb S g l f n w h (by have h1 := hin.2.2.1; have h2 := hin.2.2.2; omega)
  · have e : doS g (S, l) (0, f, n) = ((S, l), 1) := by simp [doS, hin]
    rw [e]
    refine (Set_no tb mb S g l f n w h fw hin).mono ?_
    rintro r w1 ⟨rfl, hf⟩
    exact ⟨rfl, h.fr0 hf, hf.weak⟩
theorem Clear_calls (tb mb S g : Nat) (l : List Bool) (f n : Int) (w : World) (h : BitW w tb mb S g l) (fw : -9223372036854775808 ≤ n ∧ n ≤ 9223372036854775807) :
    Calls Try.prog 68 #[.pointer (some ⟨tb, 0, none⟩), .int .i64 f, .int .i64 n] w
      fun r w' => r = .returned (.int .i64 (doS g (S, l) (1, f, n)).2) ∧ BitW w' tb mb (doS g (S, l) (1, f, n)).1.1 g (doS g (S, l) (1, f, n)).1.2 ∧ Fr [mb] w w' := by
  by_cases hin : insideB S f n
  · obtain ⟨f, rfl⟩ := Int.eq_ofNat_of_zero_le hin.2.1
    obtain ⟨n, rfl⟩ := Int.eq_ofNat_of_zero_le hin.1
    have e : doS g (S, l) (1, (f : Int), (n : Int)) = ((S, bClear S g l f n), 0) := by simp [doS, hin]
    rw [e]
    exact Clear_yes tb mb S g l f n w h (by have h1 := hin.2.2.1; have h2 := hin.2.2.2; omega)
  · have e : doS g (S, l) (1, f, n) = ((S, l), 1) := by simp [doS, hin]
    rw [e]
    refine (Clear_no tb mb S g l f n w h fw hin).mono ?_
    rintro r w1 ⟨rfl, hf⟩
    exact ⟨rfl, h.fr0 hf, hf.weak⟩
theorem Resize_calls (tb mb S g : Nat) (l : List Bool) (f n : Int) (w : World) (h : BitW w tb mb S g l) :
    Calls Try.prog 26 #[.pointer (some ⟨tb, 0, none⟩), .int .i64 n] w
      fun r w' => r = .returned (.int .i64 (doS g (S, l) (2, f, n)).2) ∧ BitW w' tb mb (doS g (S, l) (2, f, n)).1.1 g (doS g (S, l) (2, f, n)).1.2 ∧ Fr [tb, mb] w w' := by
  by_cases hin : okSec n = true
  · have hb : 0 ≤ n ∧ n ≤ 4096 := by simpa [okSec] using hin
    obtain ⟨n, rfl⟩ := Int.eq_ofNat_of_zero_le hb.1
    have e : doS g (S, l) (2, f, (n : Int)) = ((n, rzB S g l n), 0) := by simp [doS, hin]
    rw [e]
    exact Resize_yes tb mb S g l n w h (by omega)
  · have e : doS g (S, l) (2, f, n) = ((S, l), 1) := by simp [doS, hin]
    rw [e]
    refine (Resize_no tb mb S g l n w h (by simpa using hin)).mono ?_
    rintro r w1 ⟨rfl, hf⟩
    exact ⟨rfl, h.fr0 hf, hf.weak⟩
def goodOp (o : Int × Int × Int) : Prop := (-9223372036854775808 ≤ o.2.2 ∧ o.2.2 ≤ 9223372036854775807) ∧ (-9223372036854775808 ≤ o.2.1 ∧ o.2.1 ≤ 9223372036854775807)
def op3 (o : Int × Int × Int) : Value := .agg #[.int .i64 o.1, .int .i64 o.2.1, .int .i64 o.2.2]
end Go.Proofs.Ytiifmakhfpllnaa

namespace Go.Proofs.Ytiifmakhfpllnaa
open Go.RowKit

/-- a slot: Kind, Host, Own -/
abbrev Slt := Int × Int × Bool
def zS : Slt := (0, 0, false)
def rightS (s : Slt) : Bool := if s.1 = 1 then decide (0 ≤ s.2.1) && decide (s.2.1 < 512) else (decide (s.1 = 0) || decide (s.1 = 2)) && decide (s.2.1 = 0) && !s.2.2
theorem rightS_zS : rightS zS = true := rfl
theorem right_hole {s : Slt} (h : rightS s = true) (h0 : s.1 = 0) : s = zS := by
  obtain ⟨a, b, c⟩ := s
  simp only at h0
  subst h0
  simp [rightS] at h
  simp [zS, h.1, h.2]
abbrev slotC (s : Slt) : List Value := [.int .i64 s.1, .int .i64 s.2.1, .bool s.2.2]
abbrev slotV (s : Slt) : Value := .agg #[.int .i64 s.1, .int .i64 s.2.1, .bool s.2.2]
def sEq (a b : Slt) : Bool := decide (a.1 = b.1) && decide (a.2.1 = b.2.1) && (a.2.2 == b.2.2)
theorem sEq_iff (a b : Slt) : sEq a b = true ↔ a = b := by
  obtain ⟨a1, a2, a3⟩ := a; obtain ⟨b1, b2, b3⟩ := b
  simp [sEq, and_assoc]
theorem sEq_self (a : Slt) : sEq a a = true := (sEq_iff a a).2 rfl

/-- the slot of a cluster -/
def tget (l : List Slt) (c : Int) : Slt := if 0 ≤ c then l.getD c.toNat zS else zS
theorem tget_nat (l : List Slt) (n : Nat) : tget l (n : Int) = l.getD n zS := by simp [tget]
theorem tget_out {l : List Slt} {c : Int} (h : c < 0 ∨ (l.length : Int) ≤ c) : tget l c = zS := by
  unfold tget
  split
  · rw [List.getD_eq_getElem?_getD, List.getElem?_eq_none (by omega)]; rfl
  · rfl
theorem right_getD {l : List Slt} (h : ∀ s ∈ l, rightS s = true) (n : Nat) : rightS (l.getD n zS) = true := by
  rw [List.getD_eq_getElem?_getD]
  cases hx : l[n]? with
  | none => rfl
  | some s => exact h s (List.mem_of_getElem? hx)
theorem right_tget {l : List Slt} (h : ∀ s ∈ l, rightS s = true) (c : Int) : rightS (tget l c) = true := by
  unfold tget; split; exact right_getD h _; rfl
def tSet (l : List Slt) (c : Int) (s : Slt) : List Slt × Slt × Int :=
  if 0 ≤ c ∧ c < l.length ∧ rightS s = true then (l.set c.toNat s, tget l c, 0) else (l, zS, 1)
def tResize (l : List Slt) (n : Int) : List Slt × List Slt × Int :=
  if 0 ≤ n ∧ n ≤ 256 then (l.take n.toNat ++ List.replicate (n.toNat - l.length) zS, (l.drop n.toNat).filter (fun s => s.1 != 0), 0) else (l, [], 1)
/-- a call: its kind, its number, its slot -/
abbrev Opr := Int × Int × Slt
abbrev opC (o : Opr) : List Value := [.int .i64 o.1, .int .i64 o.2.1, .int .i64 o.2.2.1, .int .i64 o.2.2.2.1, .bool o.2.2.2.2]
abbrev opV (o : Opr) : Value := .agg #[.int .i64 o.1, .int .i64 o.2.1, .int .i64 o.2.2.1, .int .i64 o.2.2.2.1, .bool o.2.2.2.2]
def tDo (l : List Slt) (o : Opr) : List Slt × List Slt × Int :=
  if o.1 = 0 then ((tSet l o.2.1 o.2.2).1, [(tSet l o.2.1 o.2.2).2.1], (tSet l o.2.1 o.2.2).2.2)
  else if o.1 = 1 then tResize l o.2.1 else (l, [], 0)
theorem tSet_right {l : List Slt} {c : Int} {s : Slt} (h : ∀ s ∈ l, rightS s = true) : ∀ x ∈ (tSet l c s).1, rightS x = true := by
  unfold tSet
  split
  · rename_i hc
    intro x hx
    rcases List.mem_or_eq_of_mem_set hx with hx | rfl
    · exact h x hx
    · exact hc.2.2
  · exact h
theorem tResize_right {l : List Slt} {n : Int} (h : ∀ s ∈ l, rightS s = true) : ∀ x ∈ (tResize l n).1, rightS x = true := by
  unfold tResize
  split
  · intro x hx
    simp only [List.mem_append, List.mem_replicate] at hx
    rcases hx with hx | ⟨_, rfl⟩
    · exact h x (List.mem_of_mem_take hx)
    · rfl
  · exact h
theorem tDo_right {l : List Slt} {o : Opr} (h : ∀ s ∈ l, rightS s = true) : ∀ x ∈ (tDo l o).1, rightS x = true := by
  unfold tDo
  split
  · exact tSet_right h
  · split
    · exact tResize_right h
    · exact h
theorem tSet_len {l : List Slt} {c : Int} {s : Slt} : (tSet l c s).1.length = l.length := by
  unfold tSet; split <;> simp
theorem tResize_len {l : List Slt} {n : Int} (h : 0 ≤ n ∧ n ≤ 256) : (tResize l n).1.length = n.toNat := by
  unfold tResize; rw [if_pos h]; simp; omega
theorem tDo_len {l : List Slt} {o : Opr} (h : l.length ≤ 256) : (tDo l o).1.length ≤ 256 := by
  unfold tDo
  split
  · rw [tSet_len]; exact h
  · split
    · by_cases hn : 0 ≤ o.2.1 ∧ o.2.1 ≤ 256
      · rw [tResize_len hn]; omega
      · unfold tResize; rw [if_neg hn]; exact h
    · exact h

/-! ### groups -/
/-- the group of Holes alone -/
def zG : List Slt := List.replicate 16 zS
theorem zG_length : zG.length = 16 := by simp [zG]
/-- the slots of group k -/
def grp (l : List Slt) (k : Nat) : List Slt := (List.range 16).map fun i => l.getD (16 * k + i) zS
theorem grp_length (l : List Slt) (k : Nat) : (grp l k).length = 16 := by simp [grp]
theorem grp_getD (l : List Slt) (k i : Nat) (h : i < 16) : (grp l k).getD i zS = l.getD (16 * k + i) zS := by
  rw [List.getD_eq_getElem?_getD, List.getElem?_eq_getElem (by rw [grp_length]; exact h)]
  simp [grp]
def keptG (l : List Slt) (k : Nat) : Bool := (grp l k).any fun s => s.1 != 0
def groups (l : List Slt) : Nat := ((List.range 16).filter (keptG l)).length
theorem kept_false {l : List Slt} {k : Nat} (hr : ∀ s ∈ l, rightS s = true) (h : keptG l k = false) : grp l k = zG := by
  rw [zG, List.eq_replicate_iff]
  refine ⟨grp_length l k, fun s hs => ?_⟩
  have h1 : ¬ (s.1 != 0) = true := by
    have := List.any_eq_false.1 h s hs
    exact this
  have h0 : s.1 = 0 := by simpa using h1
  obtain ⟨i, _, rfl⟩ := List.mem_map.1 hs
  exact right_hole (right_getD hr _) h0
theorem kept_iff {l : List Slt} {k : Nat} (hr : ∀ s ∈ l, rightS s = true) : keptG l k = true ↔ grp l k ≠ zG := by
  constructor
  · intro h e
    unfold keptG at h
    rw [e] at h
    simp [zG, zS] at h
  · intro h
    cases hk : keptG l k with
    | true => rfl
    | false => exact absurd (kept_false hr hk) h
theorem getD_set (l : List Slt) (c n : Nat) (s : Slt) (hc : c < l.length) : (l.set c s).getD n zS = if n = c then s else l.getD n zS := by
  rw [List.getD_eq_getElem?_getD, List.getElem?_set, List.getD_eq_getElem?_getD]
  by_cases h : c = n
  · subst h; simp [hc]
  · rw [if_neg h, if_neg (fun e => h e.symm)]
theorem grp_set_same (l : List Slt) (c : Nat) (s : Slt) (hc : c < l.length) : grp (l.set c s) (c / 16) = (grp l (c / 16)).set (c % 16) s := by
  apply List.ext_getElem
  · simp [grp_length]
  · intro i h1 h2
    rw [grp_length] at h1
    rw [List.getElem_set]
    simp only [grp, List.getElem_map, List.getElem_range]
    rw [getD_set _ _ _ _ hc]
    by_cases h : c % 16 = i
    · rw [if_pos (by omega), if_pos h]
    · rw [if_neg (by omega), if_neg h]
theorem grp_set_other (l : List Slt) (c k : Nat) (s : Slt) (hc : c < l.length) (hk : k ≠ c / 16) : grp (l.set c s) k = grp l k := by
  unfold grp
  apply List.map_congr_left
  intro i hi
  rw [List.mem_range] at hi
  rw [getD_set _ _ _ _ hc, if_neg (by omega)]
theorem kept_set_other (l : List Slt) (c k : Nat) (s : Slt) (hc : c < l.length) (hk : k ≠ c / 16) : keptG (l.set c s) k = keptG l k := by
  unfold keptG; rw [grp_set_other l c k s hc hk]
theorem grp_tget {l : List Slt} {c : Int} (h0 : 0 ≤ c) : (grp l (c / 16).toNat).getD (c % 16).toNat zS = tget l c := by
  rw [grp_getD _ _ _ (by omega), tget, if_pos h0]
  congr 1
  omega
end Go.Proofs.Ytiifmakhfpllnaa
