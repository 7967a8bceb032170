/-
  For every size and every script of operations, TableAll returns true and leaves the given memory as it was; there is no condition.
-/
import Derived.Test.YtknbjdbdpdbeiaaRows
import Derived.Test.YtknbjdbdpdbeiaaTableAll
import Derived.Test.YtknbjdbdpdbeiaaOpen
import Derived.Below
import Derived.ShutString
namespace Go.Proofs.Ytknbjdbdpdbeiaa.RTableAll
open Go.ChangeShapes Go.WideShapes Go.ChangeAt Go.RowKit

theorem own : ownKnob Try.prog.godebug = none := by kernel_rfl
theorem laidOut : laidOutB Try.prog = true := by kernel_rfl

theorem walk (n : Int) (vs : Value) (os : List Opr) (w : World) (hs : SlO w vs os) : Calls Try.prog 3 #[.int .i64 n, vs] w fun e w' => e = .returned (.bool true) ∧ Fr [] w w' := by
  by_cases h : okSize n = true
  · obtain ⟨k, rfl⟩ : ∃ k : Nat, n = (k : Int) := ⟨n.toNat, by simp [okSize] at h; omega⟩
    exact TableAll_yes k vs os w (by simp [okSize] at h; omega) hs
  · exact TableAll_no n vs w (by simpa using h)

set_option maxRecDepth 100000 in
theorem lifted (os : Os) (started : os.Started) (H : Type) (enc : TypeId × Value → H) :
    ReturnsInHanded {} Try.checked os 3 .any (Rows.tableAllSpec.pre6 enc Try.prog Try.f3 Rows.tableAllRow.domain false) (Rows.tableAllSpec.post enc Try.prog Try.f3 false true false false) := by
  refine returnsInHanded_of_change (C := Try.checked) own started (by kernel_rfl) Try.func3
    (ChangeSpec.witness6 (enc := enc) (C := Try.checked) false ⟨#[], #[.int .i64 0, .slice none 0 0], []⟩ 8 (by kernel_rfl) (by kernel_rfl) (by kernel_rfl) (by kernel_rfl)) ?_
  intro W base args ds gs before hval0 hW hcnd _
  have hval : ∀ (j : Nat) t v, Try.f3.params[j]? = some t → args[j]? = some v → Value.okWide Try.prog W .any base t v := hval0
  have hW' := hW
  obtain ⟨p, q, hA0, hV, rfl, hfz, hnd⟩ := hW
  have hA : DataW.TrodAll enc Try.prog W 0 (fun _ => true) true Try.f3.params.toList args.toList ds p := hA0
  rw [Try.params3] at hA hval
  obtain ⟨v0, vs0, d0, ds0, p0, q0, hargs, rfl, rfl, h0, r0⟩ := trodAll_cons hA
  obtain ⟨v1, vs1, d1, ds1, p1, q1, rfl, rfl, rfl, h1, r1⟩ := trodAll_cons r0
  obtain ⟨rfl, rfl, rfl⟩ := trodAll_nil r1
  obtain rfl : args = #[v0, v1] := by cases args; simp_all
  obtain ⟨rfl, rfl⟩ := trodVars_none hV
  obtain ⟨a0, rfl, rfl, rfl, w0⟩ := open_int Try.underlying3 (hval 0 3 v0 rfl rfl) h0
  have k1 := h1
  have lt1 : ∀ x ∈ p1, x.block < W.heap.size := by obtain ⟨m, hm⟩ := k1; exact DataW.trod_lt m _ _ _ hm
  obtain ⟨l1, s1, _⟩ := open_SlF (k := 5) opC wfO (fun _ => rfl) Try.underlying22 (by kernel_rfl) (by decide) (fun n cs y h => el_op Try.underlying34 Try.underlying32 Try.underlying3 Try.underlying4 (by kernel_rfl) (by kernel_rfl) (by kernel_rfl) (by kernel_rfl) h) (okWide_slice Try.underlying22 (hval 1 22 v1 rfl rfl)) h1
  clear hA0 hval0
  refine (walk a0 v1 l1 W s1).mono fun e W' ⟨he, hF⟩ => ?_
  subst he
  have bel := hF.toBelow
  exact ⟨_, rfl, _, _, _, [], _, [], hW', trodAll_mk1 (shut_bool Try.underlying4 _), (trodAll_cons_mk (shut_int Try.underlying3 w0) (trodAll_cons_mk (Below.trod laidOut (by kernel_rfl) (of_decide_eq_true (by kernel_rfl)) k1 bel lt1) trodAll_mk0)), rfl, bel.frame _, fun h => by cases h⟩

theorem over : Rows.tableAllRow.holds Try.pinned (OpenSpec.ofChange Rows.tableAllSpec) :=
  OpenClaim.holds_of_wide 3 Try.f3 rfl rfl rfl rfl rfl rfl rfl ⟨rfl, rfl, rfl, rfl, rfl⟩ rfl rfl rfl rfl rfl (by kernel_rfl) Try.func3 (by kernel_rfl)
    (of_decide_eq_true (by kernel_rfl)) (by unfold Func.isWrapper; first | (rw [if_pos (by decide +kernel)]; kernel_rfl) | (rw [if_neg (by decide +kernel)]; exact ⟨rfl, rfl⟩))
    (fun os started H enc _ => lifted os started H enc)

theorem proved : Rows.TableAllSaid := over
end Go.Proofs.Ytknbjdbdpdbeiaa.RTableAll
namespace Go.Proofs.Ytknbjdbdpdbeiaa
theorem tableAll_proved : Rows.TableAllSaid := RTableAll.proved
#print axioms tableAll_proved
end Go.Proofs.Ytknbjdbdpdbeiaa
