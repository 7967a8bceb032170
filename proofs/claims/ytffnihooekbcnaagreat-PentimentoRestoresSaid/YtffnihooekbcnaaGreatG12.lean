/-
  slices.Sorted(maps.Keys(m)) of a chain's map: the library's contracts laid.
-/
import Derived.Test.YtffnihooekbcnaaGreatKeyS
import Derived.Deep.RegionHeld3
set_option maxRecDepth 100000
set_option maxHeartbeats 6400000
namespace Go.Proofs.YtffnihooekbcnaaGreat
open Go.RowKit Go.Maps Go.Sort
open Go.WideElems (rg)
open Go.WideShapes (sorted_perm)
set_option maxRecDepth 100000
def layKeysC_ren:Go.Shelf.Ren:=⟨fun | 7=>185 | 10=>207 | n=>n,fun | 23=>115 | 26=>9 | 3=>118 | 28=>244 | 0=>0 | 27=>243 | 33=>92 | 4=>4 | n=>n,fun | n=>n⟩
theorem layKeysC:Go.Proofs.SlLaysZ.n7 Tryz.prog layKeysC_ren:={
 mixed:=by kernel_rfl,
 f7:=⟨Tryz.f185.name,by decide,Tryz.func185.trans (congrArg some (by kernel_rfl))⟩,
 f10:=⟨Tryz.f207.name,by decide,Tryz.func207.trans (congrArg some (by kernel_rfl))⟩,
 t0:=Tryz.underlying0,
 a0:=Tryz.isAgg0,
 z0:=Tryz.sizeOf0,
 v0:=Tryz.zeroValue0,
 t4:=Tryz.underlying4,
 a4:=Tryz.isAgg4,
 z4:=Tryz.sizeOf4,
 v4:=Tryz.zeroValue4,
 t23:=Tryz.underlying115,
 a23:=Tryz.isAgg115,
 z23:=Tryz.sizeOf115,
 v23:=Tryz.zeroValue115,
 t26:=Tryz.underlying9,
 a26:=Tryz.isAgg9,
 z26:=Tryz.sizeOf9,
 v26:=Tryz.zeroValue9,
 t27:=Tryz.underlying243,
 a27:=Tryz.isAgg243,
 z27:=Tryz.sizeOf243,
 v27:=Tryz.zeroValue243,
 t28:=Tryz.underlying244,
 a28:=Tryz.isAgg244,
 z28:=Tryz.sizeOf244,
 v28:=Tryz.zeroValue244,
 t33:=Tryz.underlying92,
 a33:=Tryz.isAgg92,
 z33:=Tryz.sizeOf92,
 v33:=Tryz.zeroValue92 }
theorem keysC_calls (mb:Nat) (w:World):Calls Tryz.prog 185 #[.map (some mb)] w fun e w'=>e=.returned (.func (.func 207) #[] #[.pointer (some ⟨w.heap.size,0,none⟩)])∧w'=w.alloc (.cells #[.map (some mb)] 115) :=
 (callsIn_wide (n:=0)).1 (Go.Proofs.AnyZ.keys_in layKeysC Fence.wide 0 trivial rfl (some mb) w)
theorem sortedC_calls (bm mb N:Nat) (w:World) (hB:w.cell? ⟨bm,0,none⟩=some (.map (some mb))) (hbm:bm<w.heap.size) {es:Array MapEntry} {clock:Nat} {m:Value→Option Value} (hm:mapAt w mb=some (es,clock)) (hi:IsM Tryz.prog 9 es clock m)
 (hN:es.size≤N) (hM:N≤4096) (L:List (List UInt8)) (hs:L.Pairwise (·<·)) (hL:∀k:List UInt8,k∈L ↔ (m (strL k)).isSome=true) :
 Calls Tryz.prog 166 #[.func (.func 207) #[] #[.pointer (some ⟨bm,0,none⟩)]] w fun e w'=>∃v,e=.returned v∧SlT w' v L∧Fr [] w w'∧∀k,v.ownBlock=some k→w.heap.size≤k:=by
 have hd:L.Nodup:=hs.imp (fun {a b} h e=>by subst e;exact List.lt_irrefl _ h)
 obtain ⟨D0,hown,hperm,hsz⟩:=keysS_own Tryz.underlying9 hm hi hN (by unfold maxLen;omega) hd hL
 have hseq:SeqGives Fence.wide 2 Tryz.prog 207 #[.pointer (some ⟨bm,0,none⟩)] encStr (fun ss=>ss.Perm (strKeys D0)) (Maps.size D0) w :=
  Go.Proofs.AnyZ.keys_gives (ρ:=layKeysC_ren) { layKeysC with } Fence.wide _ trivial rfl (by omega) bm mb N D0 _ hbm hB hown
 have cS:=Go.Proofs.AnyZ.sorted_in laySortedS Fence.wide 5 trivial trivial trivial trivial rfl (by omega) (sortsS _) (enters_of Tryz.func194 (by kernel_rfl) rfl) 207 #[.pointer (some ⟨bm,0,none⟩)] trivial
  (enters_of Tryz.func207 (by kernel_rfl) rfl) _ _ (by unfold maxLen;omega) (by omega) _ hseq
 refine ((callsIn_wide (n:=5)).1 cS).mono ?_
 rintro e w' ⟨v,ss,rfl,hS,hrow,_,hb⟩
 refine ⟨v,rfl,?_,Fr.of_below hb,fun k hk=>own_base hrow k hk⟩
 have he:=eqSortS L ss (hS.trans hperm) hs
 have hlen:ss.length=L.length:=(hS.trans hperm).length_eq
 rw [he,hlen] at hrow
 refine SlF.of_owns (base:=w.heap.size) (e:=9) (size:=1) ?_
 have hfl:L.flatMap strC=L.map encStr:=by
  clear hrow he hlen hs hL hd hperm hS
  induction L with
  | nil=>rfl
  | cons x l ih=>rw [List.flatMap_cons,ih];rfl
 rw [hfl]
 exact hrow
end Go.Proofs.YtffnihooekbcnaaGreat
namespace Go.Proofs.YtffnihooekbcnaaGreat
open Go.RowKit Go.Maps
attribute [local go_sem] mapAt_alloc mapAt_setCell mapAt_drew mapAt_drewN
theorem Clone_calls (b:Nat) (es:Array MapEntry) (clock:Nat) (w:World) (hm:mapAt w b=some (es,clock)) :
 Calls Tryz.prog 145 #[.map (some b)] w fun e w'=>e=.returned (.map (some w.heap.size))∧w'=w.alloc (.map es clock):=by
 have hb:=mapAt_some.1 hm
 have hq:=fun w=>run_eql_map_nil_sl (P:=Tryz.prog) w 138 _ _ (some b) Tryz.underlying138
 go_enter Tryz.func145,Tryz.ntmps145
 go_wp2
 rw [run_callFunc_extern Tryz.func184 (by kernel_rfl) (by kernel_rfl) (by kernel_rfl) (e:=Extern.MapsClone.clone) (by kernel_rfl),run_maps_clone_sl w 138 hb]
 simp only [Result.andThen]
 rw [Oper.upon_value]
 go_wp2
 rw [run_typeAssert_map_sl _ 138 20 _ _ _ Tryz.underlying138]
 simp only [Result.andThen]
 rw [Oper.upon_value]
 go_wp2
 go_ret
 exact ⟨rfl,rfl⟩
theorem Copy_calls (tb mb S g:Nat) (l:List Bool) (w:World) (h:BitW w tb mb S g l) :
 Calls Tryz.prog 89 #[.pointer (some ⟨tb,0,none⟩)] w fun e w'=>∃tb' mb',e=.returned (.pointer (some ⟨tb',0,none⟩))∧w.heap.size≤tb'∧w.heap.size≤mb'∧BitW w' tb' mb' S g l∧Fr [] w w':=by
 have c:=h.blk.cell
 obtain ⟨es,clock,hm,hi⟩:=h.map
 have hlt:=h.lt
 have hS:=h.size
 have hg:=h.grain
 have hl:=h.len
 have key:=Clone_calls mb es clock w.drew hm
 have hca:∀o,(w.drew.alloc (.map es clock)).cell? ⟨tb,o,none⟩=[Value.int .i64 S,.int .i64 g,.map (some mb)][o]?:=fun o=>by
  rw [World.cell?_of_block (Below.heap_alloc _ _ _ hlt.1)];exact c o
 have hcb:∀o,((w.alloc (.map es clock)).alloc (.cells #[.int .i64 S,.int .i64 g,.map (some w.heap.size)] 140)).drew.cell? ⟨tb,o,none⟩=[Value.int .i64 S,.int .i64 g,.map (some mb)][o]?:=fun o=>by
  have e1:((w.alloc (.map es clock)).alloc (.cells #[.int .i64 S,.int .i64 g,.map (some w.heap.size)] 140)).drew.cell? ⟨tb,o,none⟩=(w.alloc (.map es clock)).cell? ⟨tb,o,none⟩:=World.cell?_of_block (Below.heap_alloc _ _ _ (by simp;omega))
  rw [e1,World.cell?_of_block (Below.heap_alloc _ _ _ hlt.1)];exact c o
 go_enter Tryz.func89,Tryz.ntmps89
 go_wp2_with fail
 go_region_held3 (fun W=>W.cell? ⟨tb,0,none⟩=some (.int .i64 S)∧W.cell? ⟨tb,1,none⟩=some (.int .i64 g)∧W.cell? ⟨tb,2,none⟩=some (.map (some mb))) (first | exact ⟨c 0,c 1,c 2⟩ | exact ⟨hca 0,hca 1,hca 2⟩ | exact ⟨hcb 0,hcb 1,hcb 2⟩) (first | (go_at_call 145;refine key.mono ?_;rintro e w1 ⟨rfl,rfl⟩))
 all_goals go_wp2
 all_goals go_ret
 all_goals refine ⟨w.heap.size+1,w.heap.size,rfl,by omega,Nat.le_refl _,⟨?_,hS,hg,hl,es,clock,?_,hi⟩,(((Fr.refl _ _).alloc _).alloc _).drew⟩
 all_goals first
  | exact (Blk.new' (by simp) [_,_,_] _).drew
  | (rw [mapAt_drew,mapAt_some,Below.heap_alloc _ _ _ (by simp)];exact heap_alloc_new w _)
theorem keyedStr:Keyed Tryz.prog 9:=string_keyed Tryz.underlying9
def cpt:Option Cel→Value
 | some c=>c.ptr
 | none=>.pointer none
theorem cpt_getD (o:Option Cel):(o.map Cel.ptr).getD (.pointer none)=cpt o:=by cases o <;> rfl
theorem zeroEnt (W:World):(zeroValue 141).run Tryz.prog W=.ok (.pointer none) W:=by kernel_rfl
theorem lookD {L:List Cel} {es:Array MapEntry} {clock mb:Nat} (hi:IsM Tryz.prog 9 es clock (dirM L)) {s:List UInt8} (hs:s.length≤maxLen) (W:World) (hm:mapAt W mb=some (es,clock)) :
 (Instr.lookup 125 (.map (some mb)) (strL s) false).run Tryz.prog W=.ok (cpt (findC L s)) W:=by
 rw [run_lookup_isM Tryz.underlying125 keyedStr hi false (keyStr hs) W (zeroEnt W) hm,dirM_str,cpt_getD]
 rfl
theorem dNew_calls (w:World):Calls Tryz.prog 35 #[] w fun e w'=>∃db mb,e=.returned (.pointer (some ⟨db,0,none⟩))∧w.heap.size≤db∧w.heap.size≤mb∧DirW w' db mb []∧Fr [] w w':=by
 have hmm:=@run_makeMap Tryz.prog
 go_enter Tryz.func35,Tryz.ntmps35
 go_wp2
 go_ret
 refine ⟨w.heap.size+1,w.heap.size,rfl,by omega,Nat.le_refl _,⟨?_,⟨#[],0,?_,?_⟩,by simp,List.Pairwise.nil,by simp,by simp,by simp [feet],by simp [feet]⟩,((Fr.refl _ _).alloc _).alloc _⟩
 ·exact Blk.new' (by simp) [_] _
 ·rw [mapAt_alloc _ (by simp),mapAt_some]
  exact heap_alloc_new w _
 ·have:=IsM.empty (P:=Tryz.prog) (K:=9)
  have he:(fun _=>none)=dirM []:=dirM_ext (by simp) (by simp [findC])
  rwa [he] at this
theorem Names_calls (db mb:Nat) (L:List Cel) (w:World) (h:DirW w db mb L):Calls Tryz.prog 114 #[.pointer (some ⟨db,0,none⟩)] w fun e w'=>∃v,e=.returned v∧SlT w' v (L.map fun c=>c.x.name)∧Fr [] w w'∧∀k,v.ownBlock=some k→w.heap.size≤k:=by
 have c0:=h.blk.cell 0
 obtain ⟨es,clock,hm,hi⟩:=h.map
 have hsz:=DirW.size h.rising hi
 have h8:=h.few
 have hlt:=mapAt_lt hm
 have hsort:(L.map fun c=>c.x.name).Pairwise (·<·):=by rw [List.pairwise_map];exact h.rising
 have hmem:∀k:List UInt8,k∈(L.map fun c=>c.x.name) ↔ (dirM L (strL k)).isSome=true:=by
  intro k
  rw [←DirW.one_key]
  simp only [List.mem_map]
  constructor
  ·rintro ⟨c,hc,rfl⟩;exact ⟨c,hc,rfl⟩
  ·rintro ⟨c,hc,e⟩;exact ⟨c,hc,strL_inj e⟩
 go_enter Tryz.func114,Tryz.ntmps114
 go_wp2_with fail
 refine (keysS_calls mb w).mono ?_
 rintro e w1 ⟨rfl,rfl⟩
 go_wp2_with fail
 have B:=Blk.new w [.map (some mb)] 125
 refine (sortedS_calls w.heap.size mb 8 _ (B.cell 0) B.lt (by rw [mapAt_alloc _ hlt];exact hm) hi (by omega) (by decide) _ hsort hmem).mono ?_
 rintro e w2 ⟨v,rfl,hv,hf,hn⟩
 go_wp2
 go_ret
 exact ⟨v,rfl,hv,((Fr.refl _ _).alloc _).trans0 hf,fun k hk=>Nat.le_trans (by simp) (hn k hk)⟩
theorem of_none (db mb:Nat) (L:List Cel) (s:List UInt8) (fv:Value) (w:World) (h:DirW w db mb L) (hs:s.length≤maxLen) (hc:findC L s=none) :
 Calls Tryz.prog 148 #[.pointer (some ⟨db,0,none⟩),strL s,fv] w fun e w'=>e=.returned (.int .i64 112)∧w'=w:=by
 have c0:=h.blk.cell 0
 obtain ⟨es,clock,hm,hi⟩:=h.map
 have hl:=lookD hi hs w hm
 rw [hc] at hl
 unfold cpt at hl
 go_enter Tryz.func148,Tryz.ntmps148
 go_wp2
 go_ret
 exact ⟨rfl,rfl⟩
theorem of_Switch (db mb:Nat) (L:List Cel) (s:List UInt8) (caps:List Value) (c:Cel) (w:World) (h:DirW w db mb L) (hs:s.length≤maxLen) (hc:findC L s=some c) {Q:World→Prop}
 (hQ:Calls Tryz.prog 158 (c.ptr :: caps).toArray w fun e w'=>e=.returned (.tuple #[])∧Q w') :
 Calls Tryz.prog 148 #[.pointer (some ⟨db,0,none⟩),strL s,.func (.func 158) #[] caps.toArray] w fun e w'=>e=.returned (.int .i64 0)∧Q w':=by
 have c0:=h.blk.cell 0
 obtain ⟨es,clock,hm,hi⟩:=h.map
 have hl:=lookD hi hs w hm
 rw [hc] at hl
 unfold cpt Cel.ptr at hl
 go_enter Tryz.func148,Tryz.ntmps148
 go_wp2_with fail
 refine hQ.mono ?_
 rintro e w1 ⟨rfl,hq⟩
 go_wp2
 go_ret
 exact ⟨rfl,hq⟩
theorem of_Remove (db mb:Nat) (L:List Cel) (s:List UInt8) (caps:List Value) (c:Cel) (w:World) (h:DirW w db mb L) (hs:s.length≤maxLen) (hc:findC L s=some c) {Q:World→Prop}
 (hQ:Calls Tryz.prog 157 (c.ptr :: caps).toArray w fun e w'=>e=.returned (.tuple #[])∧Q w') :
 Calls Tryz.prog 148 #[.pointer (some ⟨db,0,none⟩),strL s,.func (.func 157) #[] caps.toArray] w fun e w'=>e=.returned (.int .i64 0)∧Q w':=by
 have c0:=h.blk.cell 0
 obtain ⟨es,clock,hm,hi⟩:=h.map
 have hl:=lookD hi hs w hm
 rw [hc] at hl
 unfold cpt Cel.ptr at hl
 go_enter Tryz.func148,Tryz.ntmps148
 go_wp2_with fail
 refine hQ.mono ?_
 rintro e w1 ⟨rfl,hq⟩
 go_wp2
 go_ret
 exact ⟨rfl,hq⟩
end Go.Proofs.YtffnihooekbcnaaGreat
