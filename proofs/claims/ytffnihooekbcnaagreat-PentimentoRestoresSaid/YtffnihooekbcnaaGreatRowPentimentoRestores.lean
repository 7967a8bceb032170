/-
  For every input whatever, PentimentoRestores returns true and leaves the given memory as it was; there is no condition.
-/
import Derived.Test.YtffnihooekbcnaaGreatG41
import Derived.Test.YtffnihooekbcnaaGreatOpenV
import Derived.Below
import Derived.ShutString
set_option maxRecDepth 100000
namespace Go.Proofs.YtffnihooekbcnaaGreat.RPentimentoRestores
open Go.ChangeShapes Go.WideShapes Go.ChangeAt Go.RowKit
set_option linter.unusedVariables false
theorem own:ownKnob Tryz.prog.godebug=none:=by kernel_rfl
theorem laidOut:laidOutB Tryz.prog=true:=by kernel_rfl
theorem lifted (os:Os) (started:os.Started) (H:Type) (enc:TypeId × Value→H) :
 ReturnsInHanded {} Tryz.checked os 3 .any (Rows.pentimentoRestoresSpec.pre6 enc Tryz.prog Tryz.f3 Rows.pentimentoRestoresRow.domain false) (Rows.pentimentoRestoresSpec.post enc Tryz.prog Tryz.f3 false true false false):=by
 refine returnsInHanded_of_change (C:=Tryz.checked) own started (by kernel_rfl) Tryz.func3
  (ChangeSpec.witness6 (enc:=enc) (C:=Tryz.checked) false ⟨#[],#[.int .i64 0,.slice none 0 0],[]⟩ 8 (by kernel_rfl) (by kernel_rfl) (by kernel_rfl) (by kernel_rfl)) ?_
 intro W base args ds gs before hval0 hW hcnd _
 have hval:∀(j:Nat) t v,Tryz.f3.params[j]? = some t→args[j]? = some v→Value.okWide Tryz.prog W .any base t v:=hval0
 have hW':=hW
 obtain ⟨p,q,hA0,hV,rfl,hfz,hnd⟩:=hW
 have hA:DataW.TrodAll enc Tryz.prog W 0 (fun _=>true) true Tryz.f3.params.toList args.toList ds p:=hA0
 rw [Tryz.params3] at hA hval
 obtain ⟨v0,vs0,d0,ds0,p0,q0,hargs,rfl,rfl,k0,r0⟩:=trodAll_cons hA
 obtain ⟨v1,vs1,d1,ds1,p1,q1,rfl,rfl,rfl,k1,r1⟩:=trodAll_cons r0
 obtain ⟨rfl,rfl,rfl⟩:=trodAll_nil r1
 obtain rfl:args=#[v0,v1]:=by cases args;simp_all
 obtain ⟨rfl,rfl⟩:=trodVars_none hV
 have lt0:∀x∈p0,x.block<W.heap.size:=by obtain ⟨m,hm⟩:=k0;exact DataW.trod_lt m _ _ _ hm
 have lt1:∀x∈p1,x.block<W.heap.size:=by obtain ⟨m,hm⟩:=k1;exact DataW.trod_lt m _ _ _ hm
 obtain ⟨a0,rfl,g0⟩:=in_int (hval 0 3 v0 rfl rfl) k0
 obtain ⟨l1,s1,g1⟩:=in_evs (hval 1 22 v1 rfl rfl) k1
 clear hA0 hval0
 refine (PentimentoRestores_any W a0 v1 l1 s1 g1).mono fun e W' ⟨he,hF⟩=>?_
 subst he
 have bel:=hF.toBelow
 exact ⟨_,rfl,_,_,_,[],_,[],hW',trodAll_mk1 (shut_bool Tryz.underlying4 _),(trodAll_cons_mk (Below.trod laidOut (by kernel_rfl) (of_decide_eq_true (by kernel_rfl)) k0 bel lt0) (trodAll_cons_mk (Below.trod laidOut (by kernel_rfl) (of_decide_eq_true (by kernel_rfl)) k1 bel lt1) trodAll_mk0)),rfl,bel.frame _,fun h=>by cases h⟩
theorem j1:(Rows.pentimentoRestoresRow.inPlace == Tryz.prog.inPlace 3)=true:=by kernel_rfl
theorem j2:(Rows.pentimentoRestoresRow.unfollowed == Tryz.prog.unfollowed 3)=true:=by kernel_rfl
theorem j3:(Rows.pentimentoRestoresRow.recurses == Tryz.prog.recurses 3)=true:=by kernel_rfl
theorem j4:(Rows.pentimentoRestoresRow.named == Tryz.prog.varsNamed 3)=true:=by kernel_rfl
theorem j5:(Rows.pentimentoRestoresRow.lifted == Tryz.prog.liftsFinal)=true:=by kernel_rfl
theorem j6:(Tryz.prog.make == some Rows.pentimentoRestoresRow.make)=true:=by kernel_rfl
theorem j7:Tryz.prog.stopsHeard=true:=by kernel_rfl
theorem j8:Tryz.prog.mayEnter=true:=by kernel_rfl
theorem joined:joinedFacts Tryz.prog 3 Tryz.f3 Rows.pentimentoRestoresSpec Rows.pentimentoRestoresRow=true:=by
 unfold joinedFacts
 rw [laidOut,j1,j2,j3,j4,j5,j6,j7,j8]
 kernel_rfl
theorem over:Rows.pentimentoRestoresRow.holds Tryz.pinned (OpenSpec.ofChange Rows.pentimentoRestoresSpec) :=
 OpenClaim.holds_of_wide 3 Tryz.f3 rfl rfl rfl rfl rfl rfl rfl ⟨rfl,rfl,rfl,rfl,rfl⟩ rfl rfl rfl rfl rfl (by kernel_rfl) Tryz.func3 joined
  (of_decide_eq_true (by kernel_rfl)) (by unfold Func.isWrapper;first | (rw [if_pos (by decide +kernel)];kernel_rfl) | (rw [if_neg (by decide +kernel)];exact ⟨rfl,rfl⟩))
  (fun os started H enc _=>lifted os started H enc)
theorem proved:Rows.PentimentoRestoresSaid:=over
end Go.Proofs.YtffnihooekbcnaaGreat.RPentimentoRestores
namespace Go.Proofs.YtffnihooekbcnaaGreat
theorem pentimentoRestores_proved:Rows.PentimentoRestoresSaid:=RPentimentoRestores.proved
#print axioms pentimentoRestores_proved
end Go.Proofs.YtffnihooekbcnaaGreat
