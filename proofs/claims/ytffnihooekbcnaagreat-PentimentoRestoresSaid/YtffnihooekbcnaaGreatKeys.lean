/-
  slices.Sorted(maps.Keys(m)): the keys of a map of numbers, in order.
-/
import Derived.Test.YtffnihooekbcnaaGreatG01
import Derived.Shelf.SlIterI.Nil
set_option maxRecDepth 100000
set_option maxHeartbeats 6400000
namespace Go.Proofs.YtffnihooekbcnaaGreat
open Go.RowKit Go.Maps Go.Sort
open Go.WideElems (Fit rd rg)
open Go.WideShapes (sorted_perm)
theorem keys_own {P:Program} {K:TypeId} (hk:P.underlying K=some (.int .i64)) {w:World} {mb clock N:Nat} {es:Array MapEntry} {m:Value→Option Value} (hm:mapAt w mb=some (es,clock)) (hi:IsM P K es clock m) (hN:es.size≤N) (hM:N≤maxLen)
 {L:List Int} (hd:L.Nodup) (hL:∀k:Int,k∈L ↔ (m (.int .i64 k)).isSome=true) :
 ∃D0:DataW Unit,w.ownsMap P K (fun _=>some (.nil,[])) mb N D0∧(intKeys D0).Perm L∧Maps.size D0≤N:=by
 have hkey:∀x∈es.toList,∃a,x.key=encZ a∧(rg (H:=Unit) P K (fun _=>some (.nil,[])) x).1=.int .i64 a:=by
  intro x hx
  obtain ⟨l,hl⟩:=hi.keys x hx
  obtain ⟨a,ha,rfl,_⟩:=Maps.keyOf_i64 hk hl
  exact ⟨a,ha,by simp [rg,rd,hl]⟩
 refine ⟨_,⟨es,clock,mapAt_some.1 hm,⟨by omega,⟨hi.born,?_,?_⟩,?_⟩,hN,rfl⟩,?_,?_⟩
 ·rw [List.Nodup,List.pairwise_map];exact hi.stamps
 ·rw [List.Nodup,List.pairwise_map];exact hi.apart
 ·intro x hx
  obtain ⟨l,hl⟩:=hi.keys x hx
  exact ⟨(l,.nil),by simp [rd,hl]⟩
 ·have h1:(intKeys (.map ((es.toList.map (rg (H:=Unit) P K (fun _=>some (.nil,[])))).foldr DataW.insert []))).Perm ((es.toList.map (rg (H:=Unit) P K (fun _=>some (.nil,[])))).map fun p=>intOf p.1):=(sorted_perm _).map _
  refine h1.trans ?_
  rw [List.map_map]
  refine (List.perm_ext_iff_of_nodup ?_ hd).2 fun k=>?_
  ·rw [List.Nodup,List.pairwise_map]
   refine hi.apart.imp_of_mem fun {a b} ha hb hne e=>hne ?_
   obtain ⟨x,h2,h3⟩:=hkey a ha
   obtain ⟨y,h4,h5⟩:=hkey b hb
   simp only [Function.comp] at e
   rw [h3,h5] at e
   rw [h2,h4]
   exact congrArg _ e
  ·rw [hL,List.mem_map]
   constructor
   ·rintro ⟨x,hx,h⟩
    obtain ⟨a,h2,h3⟩:=hkey x hx
    simp only [Function.comp] at h
    rw [h3] at h
    have h4:a=k:=h
    subst h4
    rw [(hi.get (.int .i64 a) x.val).2 ⟨x,hx,h2,rfl⟩]
    rfl
   ·intro h
    obtain ⟨v,hv⟩:=Option.isSome_iff_exists.1 h
    obtain ⟨x,hx,h2,_⟩:=(hi.get _ v).1 hv
    obtain ⟨a,h3,h4⟩:=hkey x hx
    refine ⟨x,hx,?_⟩
    simp only [Function.comp]
    rw [h4]
    rw [h3] at h2
    exact encZ_inj h2
 ·show ((es.toList.map (rg (H:=Unit) P K (fun _=>some (.nil,[])))).foldr DataW.insert []).length≤N
  rw [(sorted_perm _).length_eq,List.length_map,Array.length_toList]
  exact hN
end Go.Proofs.YtffnihooekbcnaaGreat
