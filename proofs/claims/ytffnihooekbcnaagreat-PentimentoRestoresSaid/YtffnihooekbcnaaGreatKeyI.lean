/-
  maps.Keys of maps of numbers to numbers, or to bytes; slices.Sorted and slices.Collect of them: the library's contracts laid.
-/
import Derived.Test.YtffnihooekbcnaaGreatKeyL
set_option maxRecDepth 100000
set_option maxHeartbeats 6400000
namespace Go.Proofs.YtffnihooekbcnaaGreat
open Go.RowKit Go.Maps Go.Sort
set_option maxRecDepth 100000
def layKeysM_ren:Go.Shelf.Ren:=⟨fun | 7=>134 | 10=>178 | n=>n,fun | 23=>138 | 26=>3 | 3=>3 | 28=>208 | 0=>0 | 27=>207 | 33=>137 | 4=>4 | n=>n,fun | n=>n⟩
theorem layKeysM:Go.Proofs.SlLaysZI.n7 Tryz.prog layKeysM_ren:={
 mixed:=by kernel_rfl,
 f7:=⟨Tryz.f134.name,by decide,Tryz.func134.trans (congrArg some (by kernel_rfl))⟩,
 f10:=⟨Tryz.f178.name,by decide,Tryz.func178.trans (congrArg some (by kernel_rfl))⟩,
 t0:=Tryz.underlying0,
 a0:=Tryz.isAgg0,
 z0:=Tryz.sizeOf0,
 v0:=Tryz.zeroValue0,
 t4:=Tryz.underlying4,
 a4:=Tryz.isAgg4,
 z4:=Tryz.sizeOf4,
 v4:=Tryz.zeroValue4,
 t23:=Tryz.underlying138,
 a23:=Tryz.isAgg138,
 z23:=Tryz.sizeOf138,
 v23:=Tryz.zeroValue138,
 t26:=Tryz.underlying3,
 a26:=Tryz.isAgg3,
 z26:=Tryz.sizeOf3,
 v26:=Tryz.zeroValue3,
 t27:=Tryz.underlying207,
 a27:=Tryz.isAgg207,
 z27:=Tryz.sizeOf207,
 v27:=Tryz.zeroValue207,
 t28:=Tryz.underlying208,
 a28:=Tryz.isAgg208,
 z28:=Tryz.sizeOf208,
 v28:=Tryz.zeroValue208,
 t33:=Tryz.underlying137,
 a33:=Tryz.isAgg137,
 z33:=Tryz.sizeOf137,
 v33:=Tryz.zeroValue137 }
theorem keysM_calls (mb:Nat) (w:World):Calls Tryz.prog 134 #[.map (some mb)] w fun e w'=>e=.returned (.func (.func 178) #[] #[.pointer (some ⟨w.heap.size,0,none⟩)])∧w'=w.alloc (.cells #[.map (some mb)] 138) :=
 (callsIn_wide (n:=0)).1 (Go.Proofs.AnyZI.keys_in layKeysM Fence.wide 0 trivial rfl (some mb) w)
theorem sortedM_calls (bm mb N:Nat) (w:World) (hB:w.cell? ⟨bm,0,none⟩=some (.map (some mb))) (hbm:bm<w.heap.size) {es:Array MapEntry} {clock:Nat} {m:Value→Option Value} (hm:mapAt w mb=some (es,clock)) (hi:IsM Tryz.prog 3 es clock m)
 (hN:es.size≤N) (hM:N≤4096) (L:List Int) (hs:L.Pairwise (·<·)) (hL:∀k:Int,k∈L ↔ (m (.int .i64 k)).isSome=true) :
 Calls Tryz.prog 133 #[.func (.func 178) #[] #[.pointer (some ⟨bm,0,none⟩)]] w fun e w'=>∃v,e=.returned v∧SlI w' v L∧Fr [] w w'∧∀k,v.ownBlock=some k→w.heap.size≤k:=by
 have hd:L.Nodup:=hs.imp (fun {a b} h=>by omega)
 obtain ⟨D0,hown,hperm,hsz⟩:=keys_own Tryz.underlying3 hm hi hN (by unfold maxLen;omega) hd hL
 have hseq:SeqGives Fence.wide 2 Tryz.prog 178 #[.pointer (some ⟨bm,0,none⟩)] encZ (fun ss=>ss.Perm (intKeys D0)) (Maps.size D0) w :=
  Go.Proofs.AnyZI.keys_gives (ρ:=layKeysM_ren) { layKeysM with } Fence.wide _ trivial rfl (by omega) bm mb N D0 _ hbm hB hown
 have cS:=Go.Proofs.AnyZI.sorted_in laySorted Fence.wide 5 trivial trivial trivial trivial rfl (by omega) (sortsK _) (enters_of Tryz.func177 (by kernel_rfl) rfl) 178 #[.pointer (some ⟨bm,0,none⟩)] trivial
  (enters_of Tryz.func178 (by kernel_rfl) rfl) _ _ (by unfold maxLen;omega) (by omega) _ hseq
 refine ((callsIn_wide (n:=5)).1 cS).mono ?_
 rintro e w' ⟨v,ss,rfl,hS,hrow,_,hb⟩
 refine ⟨v,rfl,?_,Fr.of_below hb,fun k hk=>own_base hrow k hk⟩
 have he:=eqSort L ss (hS.trans hperm) hs
 have hlen:ss.length=L.length:=(hS.trans hperm).length_eq
 rw [he,hlen] at hrow
 refine SlF.of_owns (base:=w.heap.size) (e:=3) (size:=1) ?_
 have hfl:L.flatMap intC=L.map encZ:=by
  clear hrow he hlen hs hL hd hperm hS
  induction L with
  | nil=>rfl
  | cons x l ih=>rw [List.flatMap_cons,ih];rfl
 rw [hfl]
 exact hrow
theorem collectM_calls (bm mb N:Nat) (w:World) (hB:w.cell? ⟨bm,0,none⟩=some (.map (some mb))) (hbm:bm<w.heap.size) {es:Array MapEntry} {clock:Nat} {m:Value→Option Value} (hm:mapAt w mb=some (es,clock)) (hi:IsM Tryz.prog 3 es clock m)
 (hN:es.size≤N) (hM:N≤4096) (L:List Int) (hs:L.Pairwise (·<·)) (hL:∀k:Int,k∈L ↔ (m (.int .i64 k)).isSome=true) :
 Calls Tryz.prog 176 #[.func (.func 178) #[] #[.pointer (some ⟨bm,0,none⟩)]] w fun e w'=>∃v ss,e=.returned v∧ss.Perm L∧SlI w' v ss∧Fr [] w w'∧∀k,v.ownBlock=some k→w.heap.size≤k:=by
 have hd:L.Nodup:=hs.imp (fun {a b} h=>by omega)
 obtain ⟨D0,hown,hperm,hsz⟩:=keys_own Tryz.underlying3 hm hi hN (by unfold maxLen;omega) hd hL
 have hseq:SeqGives Fence.wide 2 Tryz.prog 178 #[.pointer (some ⟨bm,0,none⟩)] encZ (fun ss=>ss.Perm (intKeys D0)) (Maps.size D0) w :=
  Go.Proofs.AnyZI.keys_gives (ρ:=layKeysM_ren) { layKeysM with } Fence.wide _ trivial rfl (by omega) bm mb N D0 _ hbm hB hown
 have cS:=Go.Proofs.AnyZI.collect_in (ρ:=laySorted_ren) { laySorted with } Fence.wide 4 trivial trivial rfl (by omega) 178 #[.pointer (some ⟨bm,0,none⟩)] trivial
  (enters_of Tryz.func178 (by kernel_rfl) rfl) _ _ (by unfold maxLen;omega) (by omega) _ hseq
 refine ((callsIn_wide (n:=4)).1 cS).mono ?_
 rintro e w' ⟨v,ss,rfl,hS,hrow,hnil,hb⟩
 refine ⟨v,ss,rfl,hS.trans hperm,?_,Fr.of_below hb,fun k hk=>own_base hrow k hk⟩
 refine SlF.of_owns (base:=w.heap.size) (e:=3) (size:=1) ?_
 have hfl:ss.flatMap intC=ss.map encZ:=by
  clear hrow hS hnil
  induction ss with
  | nil=>rfl
  | cons x l ih=>rw [List.flatMap_cons,ih];rfl
 rw [hfl]
 exact hrow
def layKeysG_ren:Go.Shelf.Ren:=⟨fun | 7=>150 | 10=>186 | n=>n,fun | 23=>157 | 26=>3 | 3=>31 | 28=>208 | 0=>0 | 27=>207 | 33=>137 | 4=>4 | n=>n,fun | n=>n⟩
theorem layKeysG:Go.Proofs.SlLaysZI.n7 Tryz.prog layKeysG_ren:={
 mixed:=by kernel_rfl,
 f7:=⟨Tryz.f150.name,by decide,Tryz.func150.trans (congrArg some (by kernel_rfl))⟩,
 f10:=⟨Tryz.f186.name,by decide,Tryz.func186.trans (congrArg some (by kernel_rfl))⟩,
 t0:=Tryz.underlying0,
 a0:=Tryz.isAgg0,
 z0:=Tryz.sizeOf0,
 v0:=Tryz.zeroValue0,
 t4:=Tryz.underlying4,
 a4:=Tryz.isAgg4,
 z4:=Tryz.sizeOf4,
 v4:=Tryz.zeroValue4,
 t23:=Tryz.underlying157,
 a23:=Tryz.isAgg157,
 z23:=Tryz.sizeOf157,
 v23:=Tryz.zeroValue157,
 t26:=Tryz.underlying3,
 a26:=Tryz.isAgg3,
 z26:=Tryz.sizeOf3,
 v26:=Tryz.zeroValue3,
 t27:=Tryz.underlying207,
 a27:=Tryz.isAgg207,
 z27:=Tryz.sizeOf207,
 v27:=Tryz.zeroValue207,
 t28:=Tryz.underlying208,
 a28:=Tryz.isAgg208,
 z28:=Tryz.sizeOf208,
 v28:=Tryz.zeroValue208,
 t33:=Tryz.underlying137,
 a33:=Tryz.isAgg137,
 z33:=Tryz.sizeOf137,
 v33:=Tryz.zeroValue137 }
theorem keysG_calls (mb:Nat) (w:World):Calls Tryz.prog 150 #[.map (some mb)] w fun e w'=>e=.returned (.func (.func 186) #[] #[.pointer (some ⟨w.heap.size,0,none⟩)])∧w'=w.alloc (.cells #[.map (some mb)] 157) :=
 (callsIn_wide (n:=0)).1 (Go.Proofs.AnyZI.keys_in layKeysG Fence.wide 0 trivial rfl (some mb) w)
theorem sortedG_calls (bm mb N:Nat) (w:World) (hB:w.cell? ⟨bm,0,none⟩=some (.map (some mb))) (hbm:bm<w.heap.size) {es:Array MapEntry} {clock:Nat} {m:Value→Option Value} (hm:mapAt w mb=some (es,clock)) (hi:IsM Tryz.prog 3 es clock m)
 (hN:es.size≤N) (hM:N≤4096) (L:List Int) (hs:L.Pairwise (·<·)) (hL:∀k:Int,k∈L ↔ (m (.int .i64 k)).isSome=true) :
 Calls Tryz.prog 133 #[.func (.func 186) #[] #[.pointer (some ⟨bm,0,none⟩)]] w fun e w'=>∃v,e=.returned v∧SlI w' v L∧Fr [] w w'∧∀k,v.ownBlock=some k→w.heap.size≤k:=by
 have hd:L.Nodup:=hs.imp (fun {a b} h=>by omega)
 obtain ⟨D0,hown,hperm,hsz⟩:=keys_own Tryz.underlying3 hm hi hN (by unfold maxLen;omega) hd hL
 have hseq:SeqGives Fence.wide 2 Tryz.prog 186 #[.pointer (some ⟨bm,0,none⟩)] encZ (fun ss=>ss.Perm (intKeys D0)) (Maps.size D0) w :=
  Go.Proofs.AnyZI.keys_gives (ρ:=layKeysG_ren) { layKeysG with } Fence.wide _ trivial rfl (by omega) bm mb N D0 _ hbm hB hown
 have cS:=Go.Proofs.AnyZI.sorted_in laySorted Fence.wide 5 trivial trivial trivial trivial rfl (by omega) (sortsK _) (enters_of Tryz.func177 (by kernel_rfl) rfl) 186 #[.pointer (some ⟨bm,0,none⟩)] trivial
  (enters_of Tryz.func186 (by kernel_rfl) rfl) _ _ (by unfold maxLen;omega) (by omega) _ hseq
 refine ((callsIn_wide (n:=5)).1 cS).mono ?_
 rintro e w' ⟨v,ss,rfl,hS,hrow,_,hb⟩
 refine ⟨v,rfl,?_,Fr.of_below hb,fun k hk=>own_base hrow k hk⟩
 have he:=eqSort L ss (hS.trans hperm) hs
 have hlen:ss.length=L.length:=(hS.trans hperm).length_eq
 rw [he,hlen] at hrow
 refine SlF.of_owns (base:=w.heap.size) (e:=3) (size:=1) ?_
 have hfl:L.flatMap intC=L.map encZ:=by
  clear hrow he hlen hs hL hd hperm hS
  induction L with
  | nil=>rfl
  | cons x l ih=>rw [List.flatMap_cons,ih];rfl
 rw [hfl]
 exact hrow
end Go.Proofs.YtffnihooekbcnaaGreat
