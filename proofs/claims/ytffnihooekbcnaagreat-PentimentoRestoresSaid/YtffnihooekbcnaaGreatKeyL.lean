/-
  maps.Keys, slices.Sorted at this program: the library's contracts laid; the keys of a map, sorted, as a row.
-/
import Derived.Test.YtffnihooekbcnaaGreatKeys
import Derived.Test.YtffnihooekbcnaaGreatSortP
set_option maxRecDepth 100000
set_option maxHeartbeats 6400000
namespace Go.Proofs.YtffnihooekbcnaaGreat
open Go.RowKit Go.Maps Go.Sort
set_option maxRecDepth 100000
def laySorted_ren:Go.Shelf.Ren:=⟨fun | 6=>133 | 8=>176 | 9=>177 | 11=>201 | 13=>203 | 12=>202 | 23=>235 | 24=>236 | 14=>226 | 15=>227 | 16=>228 | 17=>229 | 18=>230 | 19=>231 | 20=>232 | 21=>233 | 22=>234 | 25=>253 | 26=>254 | 27=>255 | 28=>256 | 29=>257 | 30=>258 | 31=>264 | n=>n,fun | 26=>3 | 28=>208 | 24=>167 | 0=>0 | 3=>3 | 37=>240 | 48=>302 | 50=>304 | 4=>4 | 40=>295 | 39=>294 | 45=>299 | 5=>5 | 9=>9 | 51=>317 | 55=>321 | 57=>325 | 58=>315 | 33=>137 | n=>n,fun | n=>n⟩
theorem laySorted:Go.Proofs.SlLaysZI.n6 Tryz.prog laySorted_ren:={
 mixed:=by kernel_rfl,
 f6:=⟨Tryz.f133.name,by decide,Tryz.func133.trans (congrArg some (by kernel_rfl))⟩,
 f8:=⟨Tryz.f176.name,by decide,Tryz.func176.trans (congrArg some (by kernel_rfl))⟩,
 f11:=⟨Tryz.f201.name,by decide,Tryz.func201.trans (congrArg some (by kernel_rfl))⟩,
 t0:=Tryz.underlying0,
 a0:=Tryz.isAgg0,
 z0:=Tryz.sizeOf0,
 v0:=Tryz.zeroValue0,
 t24:=Tryz.underlying167,
 a24:=Tryz.isAgg167,
 z24:=Tryz.sizeOf167,
 v24:=Tryz.zeroValue167,
 t26:=Tryz.underlying3,
 a26:=Tryz.isAgg3,
 z26:=Tryz.sizeOf3,
 v26:=Tryz.zeroValue3,
 t28:=Tryz.underlying208,
 a28:=Tryz.isAgg208,
 z28:=Tryz.sizeOf208,
 v28:=Tryz.zeroValue208,
 i26:=by kernel_rfl }
theorem sortsK (m:Nat):Go.Proofs.AnyZI.SortsIn Tryz.prog laySorted_ren Fence.wide m :=
 ⟨fun blk off cap ss W hH hblk hsz=>callsIn_wide.2 (Go.Proofs.AnyM.slices_Sort_int laySort blk off cap ss W hH hblk hsz),
  fun p cap W=>callsIn_wide.2 (Go.Proofs.AnyM.slices_Sort_int_none laySort p cap W)⟩
theorem eqSort (L L':List Int) (h:L'.Perm L) (hs:L.Pairwise (·<·)):L'.mergeSort (fun x y=>decide (x≤y))=L:=by
 have h1:L'.mergeSort leI=L.mergeSort leI:=mergeSort_of_perm_i h
 show L'.mergeSort leI=L
 rw [h1]
 exact List.mergeSort_of_pairwise (hs.imp (fun {a b} h=>by simp only [leI,decide_eq_true_eq];omega))
end Go.Proofs.YtffnihooekbcnaaGreat
