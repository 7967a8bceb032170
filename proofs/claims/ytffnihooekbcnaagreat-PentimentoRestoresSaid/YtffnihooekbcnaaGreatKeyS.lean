/-
  slices.Sorted(maps.Keys(m)) of a map keyed by texts: the library's contracts laid; its keys, sorted, as a row.
-/
import Derived.Test.YtffnihooekbcnaaGreatG01
import Derived.Test.YtffnihooekbcnaaGreatG08
import Derived.Test.YtffnihooekbcnaaGreatSortS
import Derived.Shelf.SlIter.Nil
set_option maxRecDepth 100000
set_option maxHeartbeats 6400000
namespace Go.Proofs.YtffnihooekbcnaaGreat
open Go.RowKit Go.Maps Go.Sort
open Go.WideElems (rg)
open Go.WideShapes (sorted_perm)
theorem keysS_own {P:Program} {K:TypeId} (hk:P.underlying K=some .string) {w:World} {mb clock N:Nat} {es:Array MapEntry} {m:Value→Option Value} (hm:mapAt w mb=some (es,clock)) (hi:IsM P K es clock m) (hN:es.size≤N) (hM:N≤maxLen)
 {L:List (List UInt8)} (hd:L.Nodup) (hL:∀k:List UInt8,k∈L ↔ (m (strL k)).isSome=true) :
 ∃D0:DataW Unit,w.ownsMap P K (fun _=>some (.nil,[])) mb N D0∧(strKeys D0).Perm L∧Maps.size D0≤N:=by
 have hkey:∀x∈es.toList,∃a,x.key=encStr a∧(rg (H:=Unit) P K (fun _=>some (.nil,[])) x).1=.string a:=by
  intro x hx
  obtain ⟨l,hl⟩:=hi.keys x hx
  obtain ⟨a,ha,rfl,_⟩:=Maps.keyOf_str hk hl
  exact ⟨a,ha,by simp [Go.WideElems.rg,Go.WideElems.rd,hl]⟩
 refine ⟨_,⟨es,clock,mapAt_some.1 hm,⟨by omega,⟨hi.born,?_,?_⟩,?_⟩,hN,rfl⟩,?_,?_⟩
 ·rw [List.Nodup,List.pairwise_map];exact hi.stamps
 ·rw [List.Nodup,List.pairwise_map];exact hi.apart
 ·intro x hx
  obtain ⟨l,hl⟩:=hi.keys x hx
  exact ⟨(l,.nil),by simp [Go.WideElems.rd,hl]⟩
 ·have h1:(strKeys (.map ((es.toList.map (rg (H:=Unit) P K (fun _=>some (.nil,[])))).foldr DataW.insert []))).Perm ((es.toList.map (rg (H:=Unit) P K (fun _=>some (.nil,[])))).map fun p=>strOf p.1):=(sorted_perm _).map _
  refine h1.trans ?_
  rw [List.map_map]
  refine (List.perm_ext_iff_of_nodup ?_ hd).2 fun k=>?_
  ·rw [List.Nodup,List.pairwise_map]
   refine hi.apart.imp_of_mem fun {a b} ha hb hne e=>hne ?_
   obtain ⟨x,h2,h3⟩:=hkey a ha
   obtain ⟨y,h4,h5⟩:=hkey b hb
   simp only [Function.comp] at e
   rw [h3,h5] at e
   have e:x=y:=e
   rw [h2,h4,e]
  ·rw [hL,List.mem_map]
   constructor
   ·rintro ⟨x,hx,h⟩
    obtain ⟨a,h2,h3⟩:=hkey x hx
    simp only [Function.comp] at h
    rw [h3] at h
    have h4:a=k:=h
    subst h4
    rw [(hi.get (strL a) x.val).2 ⟨x,hx,h2,rfl⟩]
    rfl
   ·intro h
    obtain ⟨v,hv⟩:=Option.isSome_iff_exists.1 h
    obtain ⟨x,hx,h2,_⟩:=(hi.get _ v).1 hv
    obtain ⟨a,h3,h4⟩:=hkey x hx
    refine ⟨x,hx,?_⟩
    simp only [Function.comp]
    rw [h4]
    rw [h3] at h2
    exact encStr_inj h2
 ·show ((es.toList.map (rg (H:=Unit) P K (fun _=>some (.nil,[])))).foldr DataW.insert []).length≤N
  rw [(sorted_perm _).length_eq,List.length_map,Array.length_toList]
  exact hN
set_option maxRecDepth 100000
def layKeysS_ren:Go.Shelf.Ren:=⟨fun | 7=>167 | 10=>195 | n=>n,fun | 23=>125 | 26=>9 | 3=>141 | 28=>244 | 0=>0 | 27=>243 | 33=>92 | 4=>4 | n=>n,fun | n=>n⟩
theorem layKeysS:Go.Proofs.SlLaysZ.n7 Tryz.prog layKeysS_ren:={
 mixed:=by kernel_rfl,
 f7:=⟨Tryz.f167.name,by decide,Tryz.func167.trans (congrArg some (by kernel_rfl))⟩,
 f10:=⟨Tryz.f195.name,by decide,Tryz.func195.trans (congrArg some (by kernel_rfl))⟩,
 t0:=Tryz.underlying0,
 a0:=Tryz.isAgg0,
 z0:=Tryz.sizeOf0,
 v0:=Tryz.zeroValue0,
 t4:=Tryz.underlying4,
 a4:=Tryz.isAgg4,
 z4:=Tryz.sizeOf4,
 v4:=Tryz.zeroValue4,
 t23:=Tryz.underlying125,
 a23:=Tryz.isAgg125,
 z23:=Tryz.sizeOf125,
 v23:=Tryz.zeroValue125,
 t26:=Tryz.underlying9,
 a26:=Tryz.isAgg9,
 z26:=Tryz.sizeOf9,
 v26:=Tryz.zeroValue9,
 t27:=Tryz.underlying243,
 a27:=Tryz.isAgg243,
 z27:=Tryz.sizeOf243,
 v27:=Tryz.zeroValue243,
 t28:=Tryz.underlying244,
 a28:=Tryz.isAgg244,
 z28:=Tryz.sizeOf244,
 v28:=Tryz.zeroValue244,
 t33:=Tryz.underlying92,
 a33:=Tryz.isAgg92,
 z33:=Tryz.sizeOf92,
 v33:=Tryz.zeroValue92 }
def laySortedS_ren:Go.Shelf.Ren:=⟨fun | 6=>166 | 8=>193 | 9=>194 | 11=>211 | 13=>203 | 12=>212 | 23=>235 | 24=>236 | 14=>241 | 15=>242 | 16=>243 | 17=>244 | 18=>245 | 19=>246 | 20=>247 | 21=>248 | 22=>249 | 25=>260 | 26=>254 | 27=>255 | 28=>261 | 29=>262 | 30=>263 | 31=>265 | n=>n,fun | 26=>9 | 28=>244 | 24=>27 | 0=>0 | 3=>3 | 37=>240 | 48=>302 | 50=>304 | 4=>4 | 40=>295 | 39=>294 | 45=>299 | 5=>5 | 9=>9 | 51=>317 | 55=>321 | 57=>325 | 58=>315 | 33=>92 | n=>n,fun | n=>n⟩
theorem laySortedS:Go.Proofs.SlLaysZ.n6 Tryz.prog laySortedS_ren:={
 mixed:=by kernel_rfl,
 f6:=⟨Tryz.f166.name,by decide,Tryz.func166.trans (congrArg some (by kernel_rfl))⟩,
 f8:=⟨Tryz.f193.name,by decide,Tryz.func193.trans (congrArg some (by kernel_rfl))⟩,
 f11:=⟨Tryz.f211.name,by decide,Tryz.func211.trans (congrArg some (by kernel_rfl))⟩,
 t0:=Tryz.underlying0,
 a0:=Tryz.isAgg0,
 z0:=Tryz.sizeOf0,
 v0:=Tryz.zeroValue0,
 t24:=Tryz.underlying27,
 a24:=Tryz.isAgg27,
 z24:=Tryz.sizeOf27,
 v24:=Tryz.zeroValue27,
 t26:=Tryz.underlying9,
 a26:=Tryz.isAgg9,
 z26:=Tryz.sizeOf9,
 v26:=Tryz.zeroValue9,
 t28:=Tryz.underlying244,
 a28:=Tryz.isAgg244,
 z28:=Tryz.sizeOf244,
 v28:=Tryz.zeroValue244,
 i26:=by kernel_rfl }
theorem sortsS (m:Nat):Go.Proofs.AnyZ.SortsIn Tryz.prog laySortedS_ren Fence.wide m :=
 ⟨fun blk off cap ss W hH hblk hsz=>callsIn_wide.2 (Go.Proofs.AnyM.slices_Sort_string laySortS blk off cap ss W hH hblk hsz),
  fun p cap W=>callsIn_wide.2 (Go.Proofs.AnyM.slices_Sort_string_none laySortS p cap W)⟩
theorem keysS_calls (mb:Nat) (w:World):Calls Tryz.prog 167 #[.map (some mb)] w fun e w'=>e=.returned (.func (.func 195) #[] #[.pointer (some ⟨w.heap.size,0,none⟩)])∧w'=w.alloc (.cells #[.map (some mb)] 125) :=
 (callsIn_wide (n:=0)).1 (Go.Proofs.AnyZ.keys_in layKeysS Fence.wide 0 trivial rfl (some mb) w)
theorem eqSortS (L L':List (List UInt8)) (h:L'.Perm L) (hs:L.Pairwise (·<·)):L'.mergeSort (fun x y=>decide (x≤y))=L:=by
 have h1:L'.mergeSort leB=L.mergeSort leB:=mergeSort_of_perm h
 show L'.mergeSort leB=L
 rw [h1]
 exact List.mergeSort_of_pairwise (hs.imp (fun {a b} h=>by simp only [leB,decide_eq_true_eq];exact List.le_of_lt h))
theorem sortedS_calls (bm mb N:Nat) (w:World) (hB:w.cell? ⟨bm,0,none⟩=some (.map (some mb))) (hbm:bm<w.heap.size) {es:Array MapEntry} {clock:Nat} {m:Value→Option Value} (hm:mapAt w mb=some (es,clock)) (hi:IsM Tryz.prog 9 es clock m)
 (hN:es.size≤N) (hM:N≤4096) (L:List (List UInt8)) (hs:L.Pairwise (·<·)) (hL:∀k:List UInt8,k∈L ↔ (m (strL k)).isSome=true) :
 Calls Tryz.prog 166 #[.func (.func 195) #[] #[.pointer (some ⟨bm,0,none⟩)]] w fun e w'=>∃v,e=.returned v∧SlT w' v L∧Fr [] w w'∧∀k,v.ownBlock=some k→w.heap.size≤k:=by
 have hd:L.Nodup:=hs.imp (fun {a b} h e=>by subst e;exact List.lt_irrefl _ h)
 obtain ⟨D0,hown,hperm,hsz⟩:=keysS_own Tryz.underlying9 hm hi hN (by unfold maxLen;omega) hd hL
 have hseq:SeqGives Fence.wide 2 Tryz.prog 195 #[.pointer (some ⟨bm,0,none⟩)] encStr (fun ss=>ss.Perm (strKeys D0)) (Maps.size D0) w :=
  Go.Proofs.AnyZ.keys_gives (ρ:=layKeysS_ren) { layKeysS with } Fence.wide _ trivial rfl (by omega) bm mb N D0 _ hbm hB hown
 have cS:=Go.Proofs.AnyZ.sorted_in laySortedS Fence.wide 5 trivial trivial trivial trivial rfl (by omega) (sortsS _) (enters_of Tryz.func194 (by kernel_rfl) rfl) 195 #[.pointer (some ⟨bm,0,none⟩)] trivial
  (enters_of Tryz.func195 (by kernel_rfl) rfl) _ _ (by unfold maxLen;omega) (by omega) _ hseq
 refine ((callsIn_wide (n:=5)).1 cS).mono ?_
 rintro e w' ⟨v,ss,rfl,hS,hrow,_,hb⟩
 refine ⟨v,rfl,?_,Fr.of_below hb,fun k hk=>own_base hrow k hk⟩
 have he:=eqSortS L ss (hS.trans hperm) hs
 have hlen:ss.length=L.length:=(hS.trans hperm).length_eq
 rw [he,hlen] at hrow
 refine SlF.of_owns (base:=w.heap.size) (e:=9) (size:=1) ?_
 have hfl:L.flatMap strC=L.map encStr:=by
  clear hrow he hlen hs hL hd hperm hS
  induction L with
  | nil=>rfl
  | cons x l ih=>rw [List.flatMap_cons,ih];rfl
 rw [hfl]
 exact hrow
end Go.Proofs.YtffnihooekbcnaaGreat
