/-
  Calls on an image, as values; rows of them.
-/
import Derived.Test.YtilhbjjjmdnjmaaGreatM03
namespace Go.Proofs.YtilhbjjjmdnjmaaGreat
open Go.RowKit Go.Maps
structure OpI where
  k : Int
  x : Int
  lo : Int
  b : List UInt8
  nm : List UInt8
/-- with the value of its bytes -/
def opiC (r : OpI × Value) : List Value := [.int .i64 r.1.k, .int .i64 r.1.x, .int .i64 r.1.lo, r.2, strL r.1.nm]
def opiV (o : OpI) (vb : Value) : Value := .agg #[.int .i64 o.k, .int .i64 o.x, .int .i64 o.lo, vb, strL o.nm]
def zOI : OpI := ⟨0, 0, 0, [], []⟩
def wfOI (o : OpI) : Prop := (-9223372036854775808 ≤ o.k ∧ o.k ≤ 9223372036854775807) ∧ (-9223372036854775808 ≤ o.x ∧ o.x ≤ 9223372036854775807) ∧ (-9223372036854775808 ≤ o.lo ∧ o.lo ≤ 9223372036854775807) ∧ o.nm.length ≤ maxLen
theorem SlF.frE {α : Type} {f : α → List Value} {L : List Nat} {w w' : World} {v : Value} {l : List α} (h : SlF f w v l) (hf : Fr L w w') (hn : 0 < l.length → ∀ k, v.ownBlock = some k → k ∉ L) : SlF f w' v l := by
  cases l with
  | nil =>
    obtain ⟨a, cap, rfl, h1, h2, _⟩ := h
    exact ⟨a, cap, rfl, h1, h2, .inl rfl⟩
  | cons x l => exact SlF.fr h hf (hn (by simp))
theorem SlF.lt {α : Type} {f : α → List Value} {w : World} {v : Value} {l : List α} (h : SlF f w v l) (hp : 0 < (l.flatMap f).length) : ∀ k, v.ownBlock = some k → k < w.heap.size := by
  obtain ⟨a, cap, rfl, h1, h2, h3⟩ := h
  intro k hk
  rcases h3 with h3 | ⟨b, off, rfl, hb, _⟩
  · rw [h3] at hp; simp at hp
  · have : b = k := by simpa [Value.ownBlock] using hk
    omega
/-- the bytes of a call, in old blocks -/
structure BytW (w : World) (n0 : Nat) (vb : Value) (b : List UInt8) : Prop where
  sl : SlY w vb b
  okv : okV vb
  old : 0 < b.length → ∀ k, vb.ownBlock = some k → k < n0
theorem BytW.fr {w w' : World} {n0 : Nat} {vb : Value} {b : List UInt8} {L : List Nat} (h : BytW w n0 vb b) (hf : Fr L w w') (hL : ∀ x ∈ L, n0 ≤ x) : BytW w' n0 vb b :=
  ⟨SlF.frE h.sl hf (fun hp k hk hm => by have := h.old hp k hk; have := hL k hm; omega), h.okv, h.old⟩
theorem BytW.start {w : World} {vb : Value} {b : List UInt8} (h : SlY w vb b) (ho : okV vb) : BytW w w.heap.size vb b := by
  refine ⟨h, ho, fun hp => SlF.lt h ?_⟩
  cases b with
  | nil => simp at hp
  | cons x l => simp [byC]
/-- a row of calls, in old blocks -/
def OpsW (w : World) (n0 : Nat) (v : Value) (ops : List OpI) : Prop :=
  ∃ rows : List (OpI × Value), rows.map (·.1) = ops ∧ SlF opiC w v rows ∧ (0 < ops.length → ∀ k, v.ownBlock = some k → k < n0) ∧ ∀ r ∈ rows, BytW w n0 r.2 r.1.b
theorem OpsW.fr {w w' : World} {n0 : Nat} {v : Value} {ops : List OpI} {L : List Nat} (h : OpsW w n0 v ops) (hf : Fr L w w') (hL : ∀ x ∈ L, n0 ≤ x) : OpsW w' n0 v ops := by
  obtain ⟨rows, rfl, h2, h3, h4⟩ := h
  exact ⟨rows, rfl, SlF.frE h2 hf (fun hp k hk hm => by have := h3 (by simpa using hp) k hk; have := hL k hm; omega), h3, fun r hr => (h4 r hr).fr hf hL⟩
theorem OpsW.fr0 {w w' : World} {n0 : Nat} {v : Value} {ops : List OpI} (h : OpsW w n0 v ops) (hf : Fr [] w w') : OpsW w' n0 v ops := h.fr hf fun _ h => by cases h
theorem OpsW.open {w : World} {n0 : Nat} {v : Value} {ops : List OpI} (h : OpsW w n0 v ops) : ∃ a cap, v = .slice a ops.length cap ∧ ops.length ≤ cap ∧ cap ≤ maxLen := by
  obtain ⟨rows, rfl, h2, h3, h4⟩ := h
  obtain ⟨a, cap, hv, h5, h6, _⟩ := h2.open
  exact ⟨a, cap, by rw [List.length_map]; exact hv, by rw [List.length_map]; exact h5, h6⟩
theorem OpsW.at {w : World} {n0 : Nat} {a : Option Addr} {n cap : Nat} {ops : List OpI} (h : OpsW w n0 (.slice a n cap) ops) {i : Nat} (hi : i < ops.length) : ∃ b off vb, a = some ⟨b, off, none⟩ ∧ b < w.heap.size ∧ b < n0 ∧ BytW w n0 vb (ops.getD i zOI).b ∧
    w.cell? ⟨b, off + i * 5, none⟩ = some (.int .i64 (ops.getD i zOI).k) ∧ w.cell? ⟨b, off + i * 5 + 1, none⟩ = some (.int .i64 (ops.getD i zOI).x) ∧ w.cell? ⟨b, off + i * 5 + 2, none⟩ = some (.int .i64 (ops.getD i zOI).lo) ∧
    w.cell? ⟨b, off + i * 5 + 3, none⟩ = some vb ∧ w.cell? ⟨b, off + i * 5 + 4, none⟩ = some (strL (ops.getD i zOI).nm) := by
  obtain ⟨rows, rfl, h2, h3, h4⟩ := h
  have hi' : i < rows.length := by simpa using hi
  obtain ⟨a', cap', hv, _, _, hc⟩ := h2.open
  cases hv
  obtain ⟨b, off, rfl, hb, hc⟩ := hc 5 (fun _ => rfl) (by omega) i _ (getD_some (zOI, .slice none 0 0) hi')
  have hm : rows.getD i (zOI, .slice none 0 0) ∈ rows := by rw [List.getD_eq_getElem?_getD, List.getElem?_eq_getElem hi']; exact List.getElem_mem hi'
  have e : (rows.map (·.1)).getD i zOI = (rows.getD i (zOI, .slice none 0 0)).1 := by
    simp only [List.getD_eq_getElem?_getD, List.getElem?_map, List.getElem?_eq_getElem hi']
    rfl
  rw [e]
  exact ⟨b, off, _, rfl, hb, h3 (by omega) b rfl, h4 _ hm, hc 0 _ rfl, hc 1 _ rfl, hc 2 _ rfl, hc 3 _ rfl, hc 4 _ rfl⟩
/-- one call, as a value -/
def OpW (w : World) (n0 : Nat) (v : Value) (o : OpI) : Prop := ∃ vb, v = opiV o vb ∧ BytW w n0 vb o.b
theorem getD_memO {l : List OpI} {k : Nat} (hk : k < l.length) : l.getD k zOI ∈ l := by
  rw [List.getD_eq_getElem?_getD, List.getElem?_eq_getElem hk]; exact List.getElem_mem hk
end Go.Proofs.YtilhbjjjmdnjmaaGreat
