/-
  Texts as lists of bytes: their length, parts, bytes, comparisons, sums.
-/
import Derived.Test.YtiifmakhfpllnaaGreatM09
import Derived.Laws.Strings3
import Derived.Laws.DeepStrings4
namespace Go.Proofs.YtiifmakhfpllnaaGreat
open Go.RowKit

theorem len_str (l : List UInt8) (ty : TypeId) (X : World) : (Builtin.len_ #[9] ty #[strL l]).run Tryz.prog X = .ok (goInt l.length) X := by
  unfold strL
  rw [run_len_string (P := Tryz.prog) X _ _ _ Tryz.underlying9]
  rfl
theorem extract_str (l : List UInt8) (a b : Nat) : (ByteArray.mk l.toArray).extract a b = ⟨((l.drop a).take (b - a)).toArray⟩ := ByteArray.extract_mk l a b
theorem size_str (l : List UInt8) : (ByteArray.mk l.toArray).size = l.length := by simp [ByteArray.size]
/-- s[:n] -/
theorem to_str {l : List UInt8} {n : Nat} (h : n ≤ l.length) (X : World) : (Instr.slice 9 (strL l) none (some (.int .i64 (n : Int))) none).run Tryz.prog X = .ok (strL (l.take n)) X := by
  unfold strL
  rw [run_slice_string_to_if (P := Tryz.prog) X _ _ _ _ Tryz.underlying9, if_pos ⟨by omega, by rw [size_str]; omega⟩, extract_str]
  simp
/-- s[n:] -/
theorem from_str {l : List UInt8} {n : Nat} (h : n ≤ l.length) (X : World) : (Instr.slice 9 (strL l) (some (.int .i64 (n : Int))) none none).run Tryz.prog X = .ok (strL (l.drop n)) X := by
  unfold strL
  rw [run_slice_string_from_if (P := Tryz.prog) X _ _ _ _ Tryz.underlying9, if_pos ⟨by omega, by rw [size_str]; omega⟩, extract_str, size_str]
  rw [List.take_of_length_le (by simp)]
  simp
/-- s[a:b] -/
theorem part_str {l : List UInt8} {a b : Nat} (h1 : a ≤ b) (h2 : b ≤ l.length) (X : World) : (Instr.slice 9 (strL l) (some (.int .i64 (a : Int))) (some (.int .i64 (b : Int))) none).run Tryz.prog X = .ok (strL ((l.drop a).take (b - a))) X := by
  unfold strL
  rw [run_slice_string_if (P := Tryz.prog) X _ _ _ _ _ _ Tryz.underlying9, if_pos ⟨by omega, by rw [size_str]; omega⟩, if_pos ⟨by omega, by omega⟩, extract_str]
  simp
theorem at_str {l : List UInt8} {i : Nat} (h : i < l.length) (X : World) : (Instr.index 9 (strL l) (.int .i64 (i : Int))).run Tryz.prog X = .ok (.int .u8 ((l.getD i 0).toNat : Int)) X := by
  unfold strL
  rw [run_index_string (P := Tryz.prog) X _ _ _ _ Tryz.underlying9, dif_pos ⟨by omega, by rw [size_str]; omega⟩]
  rw [List.getD_eq_getElem?_getD, List.getElem?_eq_getElem h]
  simp [ByteArray.getElem_eq_getElem_data]
theorem eql_str (T : TypeId) (a b : List UInt8) : binOp .eql T (strL a) (strL b) = pure (.bool (decide (a = b))) := by
  unfold strL
  rw [binOp_string_eql, ByteArray.toList_mk, ByteArray.toList_mk]
  congr 2
  by_cases h : a = b <;> simp [h]
theorem neq_str (T : TypeId) (a b : List UInt8) : binOp .neq T (strL a) (strL b) = pure (.bool (!decide (a = b))) := by
  unfold strL
  rw [binOp_string_neq, ByteArray.toList_mk, ByteArray.toList_mk]
  congr 3
  by_cases h : a = b <;> simp [h]
theorem lss_str (T : TypeId) (a b : List UInt8) : binOp .lss T (strL a) (strL b) = pure (.bool (Op.bytesLess a b)) := by
  unfold strL
  rw [binOp_string_lss, ByteArray.toList_mk, ByteArray.toList_mk]
theorem store_str {P : Program} (l : List UInt8) (a : Addr) (m : Mode) (w : World) : (store a (strL l) m).run P w = stored P w a (strL l) m := run_store P w a _ m rfl
theorem cells_str (l : List UInt8) : (strL l).cells = #[strL l] := rfl
theorem guard_str (op : BinOp) (x y : Operand) (a b : List UInt8) (w : World) : (eqGuard op 9 x y (strL a) (strL b)).run Tryz.prog w = .ok () w := by
  unfold strL eqGuard
  simp [go_sem]
end Go.Proofs.YtiifmakhfpllnaaGreat
