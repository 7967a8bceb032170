/-
  Package dir: Switch, Remove, Clear, Get.
-/
import Derived.Test.YtffnihooekbcnaaGreatG12
import Derived.Test.YtffnihooekbcnaaGreatG13
import Derived.Test.YtffnihooekbcnaaGreatG25
set_option maxRecDepth 100000
set_option maxHeartbeats 6400000
namespace Go.Proofs.YtffnihooekbcnaaGreat
open Go.RowKit Go.Maps
attribute [local go_sem] mapAt_alloc mapAt_setCell mapAt_drew mapAt_drewN
def onE (b:Bool) (x:Ent):Ent:={ x with on:=b }
def clrE (x:Ent):Ent:={ x with S:=(doS x.g (x.S,x.l) (1,0,x.S)).1.1,l:=(doS x.g (x.S,x.l) (1,0,x.S)).1.2,use:=true }
def dn:Option Cel→Int
 | none=>112
 | some _=>0
def oneC (L:List Cel) (s:List UInt8) (f:Ent→Ent):List Cel:=chC L (fun t=>decide (t=s)) f
def oneE (E:List Ent) (s:List UInt8) (f:Ent→Ent):List Ent:=chE E (fun t=>decide (t=s)) f
theorem oneC_none {L:List Cel} {s:List UInt8} (hc:findC L s=none) (f:Ent→Ent):oneC L s f=L:=by
 unfold oneC chC
 refine (List.map_congr_left fun d hd=>?_).trans (List.map_id _)
 rw [if_neg (by simpa using findC_none.1 hc d hd)]
 rfl
theorem Switch1_calls (db mb:Nat) (L:List Cel) (c:Cel) (kb:Nat) (b:Bool) (w:World) (h:DirW w db mb L) (hc:c∈L) (B:Blk w kb [.bool b] 4) :
 Calls Tryz.prog 158 (c.ptr :: [.pointer (some ⟨kb,0,none⟩)]).toArray w fun e w'=>e=.returned (.tuple #[])∧DirW w' db mb (oneC L c.x.name (onE b))∧Fr [c.eb] w w':=by
 have c0:=B.cell 0
 have hE:=h.ents c hc
 have ce:=hE.blk.cell
 have cf:=hE.blk.frozen
 have hlt:=hE.blk.lt
 have hown:=h.own hc
 unfold Cel.ptr
 go_enter Tryz.func158,Tryz.ntmps158
 go_wp2
 have hF:Fr [c.eb] w (w.setCell ⟨c.eb,1,none⟩ (.bool b)):=(Fr.refl _ _).setCell (.inl (by simp)) _
 refine bodyPost_end (v:=.tuple #[]) (results_none rfl _ _ _) rfl ⟨rfl,h.one hc (fun x=>rfl) (hF.mono fun k hk _=>by have:=List.mem_singleton.1 hk;simp [Cel.feet,this]) ⟨?_,?_,hE.pow⟩,hF⟩
 ·exact hE.blk.setCell 1 _
 ·exact hE.bits.fr hF (by simp;exact hown.1.symm) (by simp;exact hown.2.1.symm)
theorem Switch_calls (db mb:Nat) (L:List Cel) (s:List UInt8) (b:Bool) (w:World) (h:DirW w db mb L) (hs:s.length≤maxLen) :
 Calls Tryz.prog 103 #[.pointer (some ⟨db,0,none⟩),strL s,.bool b] w fun e w'=>e=.returned (.int .i64 (dn (findC L s)))∧DirW w' db mb (oneC L s (onE b))∧Fr (feet L) w w':=by
 have B:=Blk.new w [.bool b] 4
 have hF:=(Fr.refl [] w).alloc (.cells #[.bool b] 4)
 have h1:=h.fr0 hF
 go_enter Tryz.func103,Tryz.ntmps103
 go_wp2_with fail
 cases hc:findC L s with
 | none =>
   refine (of_none db mb L s _ _ h1 hs hc).mono ?_
   rintro e w1 ⟨rfl,rfl⟩
   go_wp2
   go_ret
   refine ⟨ret_int (by rw [hc];rfl),?_,hF.weak⟩
   rw [oneC_none hc]
   exact h1
 | some c =>
   obtain ⟨hm,rfl⟩:=findC_mem hc
   refine (of_Switch db mb L _ [_] c _ h1 hs hc (Switch1_calls db mb L c w.heap.size b _ h1 hm B)).mono ?_
   rintro e w1 ⟨rfl,hD,hf⟩
   go_wp2
   go_ret
   exact ⟨ret_int (by rw [hc];rfl),hD,(hF.weak).trans' (hf.mono fun k hk _=>mem_feet.2 ⟨c,hm,by simp [Cel.feet];exact .inl (List.mem_singleton.1 hk)⟩)⟩
theorem Remove1_calls (db mb:Nat) (L:List Cel) (s:List UInt8) (v:Value) (kb nb:Nat) (w:World) (h:DirW w db mb L) (hs:s.length≤maxLen) (B:Blk w kb [.pointer (some ⟨db,0,none⟩)] 52) (C:Blk w nb [strL s] 9) :
 Calls Tryz.prog 157 (v :: [.pointer (some ⟨kb,0,none⟩),.pointer (some ⟨nb,0,none⟩)]).toArray w fun e w'=>e=.returned (.tuple #[])∧DirW w' db mb (rmC L s)∧Fr [mb] w w':=by
 have cb:=B.cell 0
 have cn:=C.cell 0
 have cd:=h.blk.cell 0
 obtain ⟨es,clock,hm,hi⟩:=h.map
 go_enter Tryz.func157,Tryz.ntmps157
 go_wp2_with fail
 refine wp_region_still_tail 5 bFollows (by as_aux_lemma=>kernel_rfl) ?_
 simp only [List.take_succ_cons,List.take_zero,List.drop_succ_cons,List.drop_zero]
 change wpStill _ _ (World.drew _) _ _ _
 iterate 5 still_step
 refine wpStill_nil ?_
 change wpList _ _ _ _ _ (World.drew _)
 refine wpList_delete_isM rfl _ _ _ 9 rfl Tryz.underlying125 keyedStr hi mb rfl _ rfl (keyStr hs) (by rw [mapAt_drew];exact hm) ?_
 intro es' hi'
 go_wp2
 have hF:Fr [mb] w (putMap w.drew mb es' clock):=((Fr.refl [mb] w).drew).trans' (putMap_fr _ _ _ _)
 exact bodyPost_end (v:=.tuple #[]) (results_none rfl _ _ _) rfl ⟨rfl,h.rm s hF (mapAt_putMap (mapAt_lt hm) _ _) hi',hF⟩
theorem Remove_calls (db mb:Nat) (L:List Cel) (s:List UInt8) (w:World) (h:DirW w db mb L) (hs:s.length≤maxLen) :
 Calls Tryz.prog 102 #[.pointer (some ⟨db,0,none⟩),strL s] w fun e w'=>e=.returned (.int .i64 (dn (findC L s)))∧DirW w' db mb (rmC L s)∧Fr [mb] w w':=by
 have hc:∃t,strL s=.string t:=⟨_,rfl⟩
 obtain ⟨t,ht⟩:=hc
 have B:=Blk.new w [.pointer (some ⟨db,0,none⟩)] 52
 have hF:=(Fr.refl [] w).alloc (.cells #[.pointer (some ⟨db,0,none⟩)] 52)
 have C:=Blk.new (w.alloc (.cells #[.pointer (some ⟨db,0,none⟩)] 52)) [strL s] 9
 have hF2:=hF.alloc (.cells #[strL s] 9)
 have B2:=B.alloc (.cells #[strL s] 9)
 have cB:=B2.cell 0
 have cC:=C.cell 0
 simp only [World.size_alloc] at C cC
 have h1:=h.fr0 hF2
 rw [ht] at hF2 h1 C cC B2 cB
 rw [ht]
 go_enter Tryz.func102,Tryz.ntmps102
 go_wp2_with fail
 rw [←ht] at *
 cases hc:findC L s with
 | none =>
   refine (of_none db mb L s _ _ h1 hs hc).mono ?_
   rintro e w1 ⟨rfl,rfl⟩
   go_wp2
   go_ret
   refine ⟨ret_int (by rw [hc];rfl),?_,hF2.weak⟩
   have:rmC L s=L:=List.filter_eq_self.2 fun d hd=>by simpa using findC_none.1 hc d hd
   rw [this]
   exact h1
 | some c =>
   refine (of_Remove db mb L s [_,_] c _ h1 hs hc (Remove1_calls db mb L s _ _ _ _ h1 hs B2 C)).mono ?_
   rintro e w1 ⟨rfl,hD,hf⟩
   go_wp2
   go_ret
   exact ⟨ret_int (by rw [hc];rfl),hD,(hF2.weak).trans' hf⟩
theorem Clear1_calls (db mb:Nat) (L:List Cel) (c:Cel) (w:World) (h:DirW w db mb L) (hc:c∈L) :
 Calls Tryz.prog 153 (c.ptr :: []).toArray w fun e w'=>e=.returned (.tuple #[])∧DirW w' db mb (oneC L c.x.name clrE)∧Fr [c.eb,c.mb] w w':=by
 have hE:=h.ents c hc
 have ce:=hE.blk.cell
 have cf:=hE.blk.frozen
 have hlt:=hE.blk.lt
 have hown:=h.own hc
 have hS:=hE.bits.size
 have keyS:=Sectors_calls c.tb c.mb c.x.S c.x.g c.x.l w.drew (hE.bits.fr0 (Fr.refl [] w).drew)
 have keyC:=Clear_calls c.tb c.mb c.x.S c.x.g c.x.l 0 c.x.S w.drew (hE.bits.fr0 (Fr.refl [] w).drew) (by omega)
 unfold Cel.ptr
 go_enter Tryz.func153,Tryz.ntmps153
 go_wp2_with fail
 go_region_held3 (fun W=>W.cell? ⟨c.eb,3,none⟩=some (.pointer (some ⟨c.tb,0,none⟩))) (first | exact ce 3 | exact (hE.blk.drew.fr hf (by simp;exact hown.2.1)).cell 3) (first | (go_at_call 56;refine keyS.mono ?_;rintro e w1 ⟨rfl,rfl⟩) | (go_at_call 154;refine keyC.mono ?_;rintro e w1 ⟨rfl,hB,hf⟩))
 all_goals
  have B1:=hE.blk.drew.fr hf (by simp;exact hown.2.1)
  have d1:=B1.cell
  have d2:=B1.frozen
  have d3:=B1.lt
  go_wp2
  have hF:Fr [c.eb,c.mb] w (w1.setCell ⟨c.eb,2,none⟩ (.bool true)):=(((Fr.refl [] w).drew.weak).trans' (hf.mono (by simp))).setCell (.inl (by simp)) _
  refine bodyPost_end (v:=.tuple #[]) (results_none rfl _ _ _) rfl ⟨rfl,h.one hc (fun x=>rfl) (hF.mono fun k hk _=>by simp at hk;simp [Cel.feet];omega) ⟨?_,?_,hE.pow⟩,hF⟩
  ·exact B1.setCell 2 _
  ·exact hB.fr ((Fr.refl [c.eb] w1).setCell (.inl (by simp)) _) (by simp;exact hown.1.symm) (by simp;exact hown.2.1.symm)
theorem of_Clear (db mb:Nat) (L:List Cel) (s:List UInt8) (caps:List Value) (c:Cel) (w:World) (h:DirW w db mb L) (hs:s.length≤maxLen) (hc:findC L s=some c) {Q:World→Prop}
 (hQ:Calls Tryz.prog 153 (c.ptr :: caps).toArray w fun e w'=>e=.returned (.tuple #[])∧Q w') :
 Calls Tryz.prog 148 #[.pointer (some ⟨db,0,none⟩),strL s,.func (.func 153) #[] caps.toArray] w fun e w'=>e=.returned (.int .i64 0)∧Q w':=by
 have c0:=h.blk.cell 0
 obtain ⟨es,clock,hm,hi⟩:=h.map
 have hl:=lookD hi hs w hm
 rw [hc] at hl
 unfold cpt Cel.ptr at hl
 go_enter Tryz.func148,Tryz.ntmps148
 go_wp2_with fail
 refine hQ.mono ?_
 rintro e w1 ⟨rfl,hq⟩
 go_wp2
 go_ret
 exact ⟨rfl,hq⟩
theorem of_Get (db mb:Nat) (L:List Cel) (s:List UInt8) (caps:List Value) (c:Cel) (w:World) (h:DirW w db mb L) (hs:s.length≤maxLen) (hc:findC L s=some c) {Q:World→Prop}
 (hQ:Calls Tryz.prog 149 (c.ptr :: caps).toArray w fun e w'=>e=.returned (.tuple #[])∧Q w') :
 Calls Tryz.prog 148 #[.pointer (some ⟨db,0,none⟩),strL s,.func (.func 149) #[] caps.toArray] w fun e w'=>e=.returned (.int .i64 0)∧Q w':=by
 have c0:=h.blk.cell 0
 obtain ⟨es,clock,hm,hi⟩:=h.map
 have hl:=lookD hi hs w hm
 rw [hc] at hl
 unfold cpt Cel.ptr at hl
 go_enter Tryz.func148,Tryz.ntmps148
 go_wp2_with fail
 refine hQ.mono ?_
 rintro e w1 ⟨rfl,hq⟩
 go_wp2
 go_ret
 exact ⟨rfl,hq⟩
theorem dClear_calls (db mb:Nat) (L:List Cel) (s:List UInt8) (w:World) (h:DirW w db mb L) (hs:s.length≤maxLen) :
 Calls Tryz.prog 100 #[.pointer (some ⟨db,0,none⟩),strL s] w fun e w'=>e=.returned (.int .i64 (dn (findC L s)))∧DirW w' db mb (oneC L s clrE)∧Fr (feet L) w w':=by
 go_enter Tryz.func100,Tryz.ntmps100
 go_wp2_with fail
 cases hc:findC L s with
 | none =>
   refine (of_none db mb L s _ _ h hs hc).mono ?_
   rintro e w1 ⟨rfl,rfl⟩
   go_wp2
   go_ret
   exact ⟨ret_int (by rw [hc];rfl),by rw [oneC_none hc];exact h,Fr.refl _ _⟩
 | some c =>
   obtain ⟨hm,rfl⟩:=findC_mem hc
   refine (of_Clear db mb L _ [] c _ h hs hc (Clear1_calls db mb L c w h hm)).mono ?_
   rintro e w1 ⟨rfl,hD,hf⟩
   go_wp2
   go_ret
   exact ⟨ret_int (by rw [hc];rfl),hD,hf.mono fun k hk _=>mem_feet.2 ⟨c,hm,by simp at hk;simp [Cel.feet];omega⟩⟩
def entV (x:Ent) (tb:Nat):Value:=.agg #[strL x.name,.bool x.on,.bool x.use,.pointer (some ⟨tb,0,none⟩)]
def noEnt:Value:=.agg #[strL [],.bool false,.bool false,.pointer none]
theorem Get1_calls (db mb:Nat) (L:List Cel) (c:Cel) (ob:Nat) (v0 v1 v2 v3:Value) (w:World) (h:DirW w db mb L) (hc:c∈L) (B:Blk w ob [v0,v1,v2,v3] 144) (hob:c.eb≠ob∧c.tb≠ob∧c.mb≠ob) :
 Calls Tryz.prog 149 (c.ptr :: [.pointer (some ⟨ob,0,none⟩)]).toArray w fun e w'=>e=.returned (.tuple #[])∧∃tb' mb',w.heap.size≤tb'∧w.heap.size≤mb' ∧
  Blk w' ob [strL c.x.name,.bool c.x.on,.bool c.x.use,.pointer (some ⟨tb',0,none⟩)] 144∧BitW w' tb' mb' c.x.S c.x.g c.x.l∧Fr [ob] w w':=by
 have hE:=h.ents c hc
 have ce:=hE.blk.cell
 have cb:=B.cell
 have fb:=B.frozen
 have lb:=B.lt
 obtain ⟨t,ht⟩:∃t,strL c.x.name=.string t:=⟨_,rfl⟩
 rw [ht] at ce
 rw [ht]
 unfold Cel.ptr
 go_enter Tryz.func149,Tryz.ntmps149
 go_wp2_with fail
 have hF:Fr [ob] w ((((w.setCell ⟨ob,0,none⟩ (.string t)).setCell ⟨ob,1,none⟩ (.bool c.x.on)).setCell ⟨ob,2,none⟩ (.bool c.x.use)).setCell ⟨ob,3,none⟩ (.pointer (some ⟨c.tb,0,none⟩))):=(((Fr.set3 w ob _ _ _)).setCell (.inl (by simp)) _)
 have B2:=(((B.setCell 0 (.string t)).setCell 1 (.bool c.x.on)).setCell 2 (.bool c.x.use)).setCell 3 (.pointer (some ⟨c.tb,0,none⟩))
 refine (Copy_calls c.tb c.mb c.x.S c.x.g c.x.l _ (hE.bits.fr hF (by simp;exact hob.2.1) (by simp;exact hob.2.2))).mono ?_
 rintro e w1 ⟨tb',mb',rfl,n1,n2,hB,hf⟩
 have B3:=B2.fr0 hf
 have d1:=B3.cell
 have d2:=B3.frozen
 have d3:=B3.lt
 simp only [World.size_setCell] at n1 n2
 go_wp2
 refine bodyPost_end (v:=.tuple #[]) (results_none rfl _ _ _) rfl ⟨rfl,tb',mb',n1,n2,B3.setCell 3 _,hB.fr ((Fr.refl [ob] w1).setCell (.inl (by simp)) _) (by simp;omega) (by simp;omega),(hF.trans0 hf).setCell (.inl (by simp)) _⟩
theorem Get_none (db mb:Nat) (L:List Cel) (s:List UInt8) (w:World) (h:DirW w db mb L) (hs:s.length≤maxLen) (hc:findC L s=none) :
 Calls Tryz.prog 95 #[.pointer (some ⟨db,0,none⟩),strL s] w fun e w'=>e=.returned (.tuple #[noEnt,.int .i64 112])∧Fr [] w w':=by
 go_enter Tryz.func95,Tryz.ntmps95
 go_wp2_with fail
 have B0:=Blk.new w [.string ⟨#[]⟩,.bool false,.bool false,.pointer none] 144
 have hF1:=(Fr.refl [] w).alloc (.cells #[.string ⟨#[]⟩,.bool false,.bool false,.pointer none] 144)
 have B1:=Blk.new (w.alloc (.cells #[.string ⟨#[]⟩,.bool false,.bool false,.pointer none] 144)) [.string ⟨#[]⟩,.bool false,.bool false,.pointer none] 144
 simp only [World.size_alloc] at B1
 have hF2:=hF1.alloc (.cells #[.string ⟨#[]⟩,.bool false,.bool false,.pointer none] 144)
 have B0:=B0.alloc (.cells #[.string ⟨#[]⟩,.bool false,.bool false,.pointer none] 144)
 have h1:=h.fr0 hF2
 refine (of_none db mb L s _ _ h1 hs hc).mono ?_
 rintro e w1 ⟨rfl,rfl⟩
 have c0:=B0.cell
 have f0:=B0.frozen
 have l0:=B0.lt
 have c1:=B1.cell
 have l1:=B1.lt
 go_wp2
 exact bodyPost_ret (v:=.tuple #[noEnt,.int .i64 112]) (by simp [results,Tryz.results95,go_sem,noEnt,strL,c0]) rfl ⟨rfl,hF2⟩
theorem Get_some (db mb:Nat) (L:List Cel) (s:List UInt8) (c:Cel) (w:World) (h:DirW w db mb L) (hs:s.length≤maxLen) (hc:findC L s=some c) :
 Calls Tryz.prog 95 #[.pointer (some ⟨db,0,none⟩),strL s] w fun e w'=>∃tb' mb',e=.returned (.tuple #[entV c.x tb',.int .i64 0])∧w.heap.size≤tb'∧w.heap.size≤mb'∧BitW w' tb' mb' c.x.S c.x.g c.x.l∧Fr [] w w':=by
 go_enter Tryz.func95,Tryz.ntmps95
 go_wp2_with fail
 have B0:=Blk.new w [.string ⟨#[]⟩,.bool false,.bool false,.pointer none] 144
 have hF1:=(Fr.refl [] w).alloc (.cells #[.string ⟨#[]⟩,.bool false,.bool false,.pointer none] 144)
 have B1:=Blk.new (w.alloc (.cells #[.string ⟨#[]⟩,.bool false,.bool false,.pointer none] 144)) [.string ⟨#[]⟩,.bool false,.bool false,.pointer none] 144
 simp only [World.size_alloc] at B1
 have hF2:=hF1.alloc (.cells #[.string ⟨#[]⟩,.bool false,.bool false,.pointer none] 144)
 have B0:=B0.alloc (.cells #[.string ⟨#[]⟩,.bool false,.bool false,.pointer none] 144)
 have h1:=h.fr0 hF2
 obtain ⟨hm,rfl⟩:=findC_mem hc
 have hlt:=h.lt
 have hft:∀k∈c.feet,k<w.heap.size:=fun k hk=>hlt k (by simp only [homes,List.mem_cons];exact .inr (.inr (mem_feet.2 ⟨c,hm,hk⟩)))
 have q1:=hft c.eb (by simp [Cel.feet])
 have q2:=hft c.tb (by simp [Cel.feet])
 have q3:=hft c.mb (by simp [Cel.feet])
 refine (of_Get db mb L _ [_] c _ h1 hs hc (Get1_calls db mb L c (w.heap.size+1) _ _ _ _ _ h1 hm B1 (by omega))).mono ?_
 rintro e w1 ⟨rfl,tb',mb',n1,n2,B3,hB,hf⟩
 obtain ⟨t,ht⟩:∃t,strL c.x.name=.string t:=⟨_,rfl⟩
 rw [ht] at B3
 have B4:=B0.fr hf (by simp)
 have c0:=B4.cell
 have f0:=B4.frozen
 have l0:=B4.lt
 have c1:=B3.cell
 have l1:=B3.lt
 simp only [World.size_alloc] at n1 n2
 have Ht:=hidIt ht
 clear ht
 go_wp2
 exact bodyPost_ret (v:=.tuple #[.agg #[.string t,.bool c.x.on,.bool c.x.use,.pointer (some ⟨tb',0,none⟩)],.int .i64 0]) (by simp [results,Tryz.results95,go_sem,((((B4.setCell 0 (.string t)).setCell 1 (.bool c.x.on)).setCell 2 (.bool c.x.use)).setCell 3 (.pointer (some ⟨tb',0,none⟩))).cell]) rfl
  ⟨tb',mb',by rw [entV,Ht.out],by omega,by omega,hB.fr ((Fr.set3 w1 w.heap.size _ _ _).setCell (.inl (by simp)) _) (by simp;omega) (by simp;omega),(((hF2.trans hf (by simp)).trans ((Fr.set3 w1 w.heap.size _ _ _).setCell (.inl (by simp)) _) (by simp)))⟩
theorem Add_arg (s:List UInt8) (dv:Value) (bb:Option Addr) (w:World) (h:okName s=false∨bb=none) :
 Calls Tryz.prog 47 #[dv,strL s,.pointer bb] w fun e w'=>e=.returned (.int .i64 1)∧Fr [] w w':=by
 go_enter Tryz.func47,Tryz.ntmps47
 go_wp2_with fail
 refine (nRight_calls s w).mono ?_
 rintro e w1 ⟨rfl,hf⟩
 cases hr:okName s with
 | false =>
   go_wp2
   go_ret
   exact ⟨rfl,hf⟩
 | true =>
   rw [hr] at h
   rcases h with h | rfl
   ·cases h
   ·go_wp2
    go_ret
    exact ⟨rfl,hf⟩
theorem Add_there (db mb:Nat) (L:List Cel) (s:List UInt8) (bp:Addr) (w:World) (hD:DirW w db mb L) (hs:okName s=true) (h:findC L s≠none∨8≤L.length) :
 Calls Tryz.prog 47 #[.pointer (some ⟨db,0,none⟩),strL s,.pointer (some bp)] w fun e w'=>e=.returned (.int .i64 111)∧Fr [] w w':=by
 have hs':s.length≤maxLen:=Nat.le_trans (okName_len hs) (by decide)
 go_enter Tryz.func47,Tryz.ntmps47
 go_wp2_with fail
 refine (nRight_calls s w).mono ?_
 rintro e w1 ⟨rfl,hf⟩
 rw [hs]
 have hD1:=hD.fr0 hf
 have c0:=hD1.blk.cell 0
 obtain ⟨es,clock,hm,hi⟩:=hD1.map
 have hl:=lookD hi hs' w1 hm
 have hsz:=DirW.size hD1.rising hi
 have hlen:=fun ty=>run_len_map (P:=Tryz.prog) (ty:=ty) Tryz.underlying125 w1 hm
 cases hc:findC L s with
 | some c =>
   rw [hc] at hl
   unfold cpt Cel.ptr at hl
   go_wp2
   go_ret
   exact ⟨rfl,hf⟩
 | none =>
   rw [hc] at hl h
   unfold cpt at hl
   have h8:(8:Int)≤es.size:=by
    rcases h with h | h
    ·exact absurd rfl h
    ·omega
   clear hsz
   go_wp2
   go_ret
   exact ⟨rfl,hf⟩
theorem Add_yes (db mb:Nat) (L:List Cel) (s:List UInt8) (tb bm S g:Nat) (l:List Bool) (w:World) (hD:DirW w db mb L) (hs:okName s=true) (hc:findC L s=none) (h8:L.length<8) (hB:BitW w tb bm S g l) (hp:pow2 g=true) :
 Calls Tryz.prog 47 #[.pointer (some ⟨db,0,none⟩),strL s,.pointer (some ⟨tb,0,none⟩)] w fun e w'=>e=.returned (.int .i64 0)∧∃c:Cel,c.x=⟨s,true,true,S,g,l⟩∧DirW w' db mb (insC c L)∧(∀k∈c.feet,w.heap.size≤k)∧Fr [mb] w w':=by
 have hs':s.length≤maxLen:=Nat.le_trans (okName_len hs) (by decide)
 go_enter Tryz.func47,Tryz.ntmps47
 go_wp2_with fail
 refine (nRight_calls s w).mono ?_
 rintro e w1 ⟨rfl,hf⟩
 rw [hs]
 have hD1:=hD.fr0 hf
 have hB1:=hB.fr0 hf
 have c0:=hD1.blk.cell 0
 obtain ⟨es,clock,hm,hi⟩:=hD1.map
 have hl:=lookD hi hs' w1 hm
 have hsz:=DirW.size hD1.rising hi
 have hlen:=fun ty=>run_len_map (P:=Tryz.prog) (ty:=ty) Tryz.underlying125 w1 hm
 rw [hc] at hl
 unfold cpt at hl
 have h8':¬(8:Int)≤es.size:=by omega
 clear hsz
 go_wp2_with fail
 obtain ⟨t,ht⟩:∃t,strL s=.string t:=⟨_,rfl⟩
 have Ht:=hidIt ht
 rw [ht]
 clear ht hl
 have hDd:=hD1.blk.drew
 refine wp_region_Z 10 (Fr [] w1.drew) [(true,0),(true,1),(true,2),(true,3),(true,4),(true,5),(true,6),(false,7),(true,8),(false,9)] (by as_aux_lemma=>kernel_rfl) (by as_aux_lemma=>kernel_rfl) (Fr.refl _ _) ?_
 simp only [inOrder,jD,jE,jF,jG]
 iterate 3 (refine wpG_pure fun K hK=>?_;go_simp;refine hK _ ?_;clear hK K)
 refine wpG_val (.map (some mb)) (by first | rfl | go_simp) (fun X hX=>by have cc:=(hDd.fr0 hX).cell;go_simp) ?_
 simp only [Act.put,jA,jB,jC]
 iterate 3 (refine wpG_pure fun K hK=>?_;go_simp;refine hK _ ?_;clear hK K)
 refine wpG_one fun K hK=>?_
 go_simp
 refine (Copy_calls tb bm S g l _ (hB1.fr0 (Fr.refl [] w1).drew)).mono ?_
 rintro e w2 ⟨tb',mb',rfl,n1,n2,hB2,hf2⟩
 refine hK _ _ (hf2) ?_
 clear hK K
 iterate 1 (refine wpG_pure fun K hK=>?_;go_simp;refine hK _ ?_;clear hK K)
 refine wpG_one fun K hK=>?_
 go_simp
 refine hK _ _ (hf2.alloc _) ?_
 clear hK K
 have hm2:=mapAt_fr hm ((Fr.refl [] w1).drew.trans0 hf2) (by simp)
 have hlt2:=mapAt_lt hm2
 have hm3:mapAt (w2.alloc (.cells #[.string t,.bool true,.bool true,.pointer (some ⟨tb',0,none⟩)] 144)) mb=some (es,clock):=by rw [mapAt_alloc _ hlt2];exact hm2
 obtain ⟨es',clock',hr,hi'⟩:=run_mapUpdate_isM (P:=Tryz.prog) Tryz.underlying125 keyedStr hi (keyStr hs') (.pointer (some ⟨w2.heap.size,0,none⟩)) _ hm3
 rw [Ht.out] at hr
 simp only [World.size_drew] at n1 n2
 have hmlt:=mapAt_lt hm3
 have Hm:=hidIt (mapAt_putMap hmlt es' clock')
 have hf3:=putMap_fr (w2.alloc (.cells #[.string t,.bool true,.bool true,.pointer (some ⟨tb',0,none⟩)] 144)) mb es' clock'
 have hlb:=hB2.lt
 have hlm:=mapAt_lt hm
 have hown:=hB2.ne
 have hfa:Fr [] w1 (w2.alloc (.cells #[.string t,.bool true,.bool true,.pointer (some ⟨tb',0,none⟩)] 144)):=((Fr.refl [] w1).drew.trans0 hf2).alloc _
 have hB3:=(hB2.fr0 ((Fr.refl [] w2).alloc (.cells #[.string t,.bool true,.bool true,.pointer (some ⟨tb',0,none⟩)] 144))).fr hf3 (by simp;omega) (by simp;omega)
 have hE3:Blk (putMap (w2.alloc (.cells #[.string t,.bool true,.bool true,.pointer (some ⟨tb',0,none⟩)] 144)) mb es' clock') w2.heap.size [strL s,.bool true,.bool true,.pointer (some ⟨tb',0,none⟩)] 144:=by
  rw [Ht.out]
  exact (Blk.new w2 [.string t,.bool true,.bool true,.pointer (some ⟨tb',0,none⟩)] 144).fr hf3 (by simp;omega)
 have hF3:=hfa.weak.trans' hf3
 have hs0:=hf.size
 have hs1:=hf2.size
 simp only [World.size_drew] at hs1
 have Hd:=hidIt (hD1.ins (c:=⟨⟨s,true,true,S,g,l⟩,w2.heap.size,tb',mb'⟩) hc h8 hs hF3 Hm.out hi' ⟨hE3,hB3,hp⟩ (by simp [Cel.feet];omega) ⟨by show w2.heap.size≠tb';omega,by show w2.heap.size≠mb';omega,hown⟩)
 have Hfr:=hidIt (hf.weak.trans' hF3)
 have Hnew:Hid (∀k∈(⟨⟨s,true,true,S,g,l⟩,w2.heap.size,tb',mb'⟩:Cel).feet,w.heap.size≤k):=hidIt (by simp [Cel.feet];omega)
 clear hE3 hB3 hF3 hfa hf3 hlb hown hs0 hs1 n1 n2 hlm Hm
 generalize putMap (w2.alloc (.cells #[.string t,.bool true,.bool true,.pointer (some ⟨tb',0,none⟩)] 144)) mb es' clock'=w3 at *
 refine wpG_last fun K hK=>?_
 go_simp
 refine hK _ _ ?_
 clear hK K
 go_wp2
 go_ret
 exact ⟨rfl,_,rfl,Hd.out,Hnew.out,Hfr.out⟩
theorem chC_same {L:List Cel} {p q:List UInt8→Bool} {f:Ent→Ent} (h:∀c∈L,p c.x.name=q c.x.name):chC L p f=chC L q f:=by
 unfold chC
 exact List.map_congr_left fun d hd=>by rw [h d hd]
theorem chC_zero {L:List Cel} {f:Ent→Ent}:chC L (fun _=>false) f=L:=by
 unfold chC
 exact (List.map_congr_left fun d _=>by simp).trans (List.map_id _)
theorem chC_more {L:List Cel} {p:List UInt8→Bool} {f:Ent→Ent} (hname:∀x,(f x).name=x.name) {s:List UInt8} (hp:p s=false) :
 chC (chC L p f) (fun t=>decide (t=s)) f=chC L (fun t=>p t || decide (t=s)) f:=by
 unfold chC
 rw [List.map_map]
 refine List.map_congr_left fun d _=>?_
 simp only [Function.comp]
 rw [chC_name hname]
 by_cases h:p d.x.name=true
 ·have:¬d.x.name=s:=fun e=>by rw [e,hp] at h;cases h
  simp [this]
 ·simp [h]
theorem mem_chC_not {L:List Cel} {p:List UInt8→Bool} {f:Ent→Ent} {c:Cel} (hc:c∈L) (hp:p c.x.name=false):c∈chC L p f:=mem_chC.2 ⟨c,hc,by rw [hp];simp⟩
def allC (L:List Cel) (f:Ent→Ent):List Cel:=chC L (fun _=>true) f
theorem feet_chC (L:List Cel) (p:List UInt8→Bool) (f:Ent→Ent):feet (chC L p f)=feet L:=by
 unfold feet chC
 rw [List.flatMap_map]
 congr 1
 funext d
 simp only [Cel.feet]
 rw [(chC_eb d).1,(chC_eb d).2.1,(chC_eb d).2.2]
structure MidD (w:World) (db mb rb:Nat) (L:List Cel) (f:Ent→Ent) (p:List UInt8→Bool) (K:Value→Prop) (cnt:Nat):Prop where
 dir:DirW w db mb (chC L p f)
 rng:RngM Tryz.prog 9 w mb rb (dirM L) K cnt
 left:∀c∈L,(p c.x.name=false ↔ K (strL c.x.name))
section
variable {w w':World} {db mb rb cnt cnt':Nat} {L:List Cel} {f:Ent→Ent} {p:List UInt8→Bool} {K:Value→Prop}
theorem MidD.start (h:DirW w db mb L) (hr:RngM Tryz.prog 9 w mb rb (dirM L) (fun k=>(dirM L k).isSome=true) cnt):MidD w db mb rb L f (fun _=>false) (fun k=>(dirM L k).isSome=true) cnt :=
 ⟨by rw [chC_zero];exact h,hr,fun c hc=>⟨fun _=>(DirW.one_key L _).1 (List.mem_map.2 ⟨c,hc,rfl⟩),fun _=>rfl⟩⟩
theorem MidD.done (h:MidD w db mb rb L f p K cnt) (hK:∀k,¬K k):DirW w db mb (allC L f):=by
 have:chC L p f=allC L f:=chC_same fun c hc=>by
  cases hp:p c.x.name with
  | true=>rfl
  | false=>exact absurd ((h.left c hc).1 hp) (hK _)
 rw [←this]
 exact h.dir
theorem MidD.next {K':Value→Prop} (h:MidD w db mb rb L f p K cnt) (_:RngM Tryz.prog 9 w' mb rb (dirM L) K' cnt') (hf:Fr [rb] w w') (hrb:∀k∈homes db mb L,k≠rb):DirW w' db mb (chC L p f) :=
 h.dir.fr hf fun k hk=>by
  have:homes db mb (chC L p f)=homes db mb L:=by unfold homes;rw [feet_chC]
  rw [this] at hk
  simpa using hrb k hk
theorem MidD.step (h:DirW w db mb (chC L p f)) (hl:∀c∈L,(p c.x.name=false ↔ K (strL c.x.name))) (hname:∀x,(f x).name=x.name) {c:Cel} (hc:c∈L) (hK:K (strL c.x.name)) 
 (hr:RngM Tryz.prog 9 w' mb rb (dirM L) (fun x=>K x∧x≠strL c.x.name) cnt') (hf:Fr c.feet w w') (hE:EntW w' (c.on f)):MidD w' db mb rb L f (fun t=>p t || decide (t=c.x.name)) (fun x=>K x∧x≠strL c.x.name) cnt':=by
 have hp:=(hl c hc).2 hK
 refine ⟨?_,hr,fun d hd=>?_⟩
 ·rw [←chC_more hname hp]
  exact h.one (mem_chC_not hc hp) hname hf hE
 ·have:=hl d hd
  constructor
  ·intro h2
   have h3:=Bool.or_eq_false_iff.1 h2
   exact ⟨this.1 h3.1,fun e=>by have:=strL_inj e;simp [this] at h3⟩
  ·rintro ⟨h2,h3⟩
   refine Bool.or_eq_false_iff.2 ⟨this.2 h2,?_⟩
   have:¬d.x.name=c.x.name:=fun e=>h3 (by rw [e])
   simpa using this
theorem MidD.ent (h:MidD w db mb rb L f p K cnt) {c:Cel} (hc:c∈L) (hK:K (strL c.x.name)):EntW w c:=h.dir.ents c (mem_chC_not hc ((h.left c hc).2 hK))
end
def wrE (f n:Int) (x:Ent):Ent:=if x.on=true then { x with S:=(doS x.g (x.S,x.l) (0,f,n)).1.1,l:=(doS x.g (x.S,x.l) (0,f,n)).1.2 } else x
theorem wrE_name (f n:Int) (x:Ent):(wrE f n x).name=x.name:=by unfold wrE;split <;> rfl
theorem feet_lt {w:World} {db mb:Nat} {L:List Cel} (h:DirW w db mb L) {c:Cel} (hc:c∈L) {k:Nat} (hk:k∈c.feet):k<w.heap.size:=h.lt k (by simp only [homes,List.mem_cons];exact .inr (.inr (mem_feet.2 ⟨c,hc,hk⟩)))
theorem dWrite_calls (db mb:Nat) (L:List Cel) (f n:Int) (w:World) (h:DirW w db mb L) (hn:-9223372036854775808≤n∧n≤9223372036854775807) :
 Calls Tryz.prog 76 #[.pointer (some ⟨db,0,none⟩),.int .i64 f,.int .i64 n] w fun e w'=>e=.returned (.tuple #[])∧DirW w' db mb (allC L (wrE f n))∧Fr (feet L) w w':=by
 have c0:=h.blk.cell 0
 obtain ⟨es,clock,hm,hi⟩:=h.map
 go_enter Tryz.func76,Tryz.ntmps76
 go_wp2_with (first
  | (at_range;refine wpList_range_isM rfl _ _ rfl Tryz.underlying125 hi mb rfl hm ?_;intro hrg0)
  | go_in)
 go_frame
 have hF0:=(Fr.refl [] w).alloc (.mapIter (some mb) clock #[] clock)
 go_loopw [7] (fun _ wr=>∃p K cnt,MidD wr db mb w.heap.size L (wrE f n) p K cnt∧Fr (feet L) w wr) (fun _ wr=>wr.rangeLeft mb w.heap.size)
 case atStart=>exact ⟨_,_,_,MidD.start (h.fr0 hF0) hrg0,hF0.weak⟩
 case round =>
  clear hrg0 hF0 c0 hm hi
  obtain ⟨p,K,cnt,hM,hF⟩:=hrel
  have hleft:=hidIt hM.rng.left
  generalize wr=wo at *
  have hrg:=hM.rng
  go_wp2_with (first
   | (at_next;refine wpList_next_isM rfl _ rfl mb w.heap.size rfl hrg ?_ ?_)
   | go_in)
  ·intro hK
   have hD:=hM.done hK
   clear hM hrg
   go_wp2
   exact bodyPost_end (v:=.tuple #[]) (results_none rfl _ _ _) rfl ⟨rfl,hD,hF⟩
  ·intro k v w1 cnt' hK hv hrg1 hlt hf1 hsz hen
   obtain ⟨c,hc,rfl,rfl⟩:=dirM_some hv
   have hlf:∀k∈c.feet,k<w.heap.size:=fun k hk=>feet_lt h hc hk
   have hM1:=hM.next hrg1 hf1 (fun k hk=>by have:=h.lt k hk;simp;omega)
   have hE:=(hM.ent hc hK).fr hf1 (fun k hk hx=>by have:=hlf k hk;have:=List.mem_singleton.1 hx;omega)
   have ce:=hE.blk.cell
   have hown:=h.own hc
   have keyS:=bSet_calls c.tb c.mb c.x.S c.x.g c.x.l f n w1 hE.bits hn
   have hF1:Fr (feet L) w w1:=hF.trans hf1 (fun x hx hl=>by have:=List.mem_singleton.1 hx;omega)
   have hrn:w.heap.size ∉ c.feet:=fun hx=>by have:=hlf _ hx;omega
   clear hv hrg hf1
   replace hM:=hidIt hM
   unfold Cel.ptr at *
   cases hon:c.x.on with
   | false =>
     rw [hon] at ce
     have hEq:c.on (wrE f n)=c:=by unfold Cel.on wrE;rw [hon];rfl
     go_wp2
     go_roundw
     case rel=>exact ⟨_,_,_,MidD.step hM1 hM.out.left (wrE_name f n) hc hK hrg1 (Fr.refl _ _) (by rw [hEq];exact hE),hF1⟩
     case measure=>rw [hrg1.left,hleft.out];omega
   | true =>
     rw [hon] at ce
     go_wp2_with fail
     refine keyS.mono ?_
     rintro e w2 ⟨rfl,hB,hf⟩
     have hE2:EntW w2 (c.on (wrE f n)):=by
      refine ⟨?_,?_,?_⟩
      ·have:=hE.blk.fr hf (by simp;exact hown.2.1)
       unfold Cel.on wrE
       rw [hon] at this ⊢
       exact this
      ·unfold Cel.on wrE
       rw [hon]
       exact hB
      ·unfold Cel.on wrE
       rw [hon]
       exact hE.pow
     have hfc:Fr c.feet w1 w2:=hf.mono fun k hk _=>by have:=List.mem_singleton.1 hk;simp [Cel.feet,this]
     have hrg2:=hrg1.fr hfc (fun hx=>hM.out.dir.home.2 (by rw [feet_chC];exact mem_feet.2 ⟨c,hc,hx⟩)) hrn
     go_wp2
     go_roundw
     case rel=>exact ⟨_,_,_,MidD.step hM1 hM.out.left (wrE_name f n) hc hK hrg2 hfc hE2,hF1.trans' (hfc.mono fun k hk _=>mem_feet.2 ⟨c,hc,hk⟩)⟩
     case measure=>rw [hrg2.left,hleft.out];omega
end Go.Proofs.YtffnihooekbcnaaGreat
namespace Go.Proofs.YtffnihooekbcnaaGreat
open Go.RowKit Go.Maps
attribute [local go_sem] mapAt_alloc mapAt_setCell mapAt_drew mapAt_drewN cells_str store_str eql_str neq_str guard_str len_str
abbrev stepC (kd a g:Int) (vb:Value) (nm ot:By) (kv:Value):List Value:=[.int .i64 kd,.int .i64 a,.int .i64 g,vb,strL nm,strL ot,kv]
section
variable {w w':World} {S:SimS} {p:List By}
theorem SimW.free (h:SimW w S) {k:Nat} (hk:w.heap.size≤k):¬allF (simF S) k:=by
 rintro ⟨i,hi⟩
 have:=h.sep.low i k hi
 omega
def wrRes (S:SimS) (p:List By) (c:Cd) (a:Int) (b:By):Int × Img:=writeE c.x.M a b (belL (S.L.map (·.x)) S.n p)
theorem sWrite1_calls (h:SimW w S) (hO:OkW S p) (c:Cd) (hc:fK S.L S.s=some c) (b1 b2:Nat) (kd a g:Int) (vb:Value) (b nm ot:By) (kv:Value) (h1:Blk w b1 [.pointer (some ⟨S.wb,0,none⟩)] 25) (h2:Blk w b2 (stepC kd a g vb nm ot kv) 34)
 (hvb:SlY w vb b) (hvo:0<b.length→∀k,vb.ownBlock=some k→¬allF (simF S) k) (n1:¬allF (simF S) b1) (n2:¬allF (simF S) b2) :
 Calls Tryz.prog 39 #[.pointer (some ⟨b1,0,none⟩),.pointer (some ⟨b2,0,none⟩)] w (chResPost w S.cb S.mb 60 S.L S.s (wrRes S p c a b)):=by
 have hcm:=(nlFind_mem hc).1
 obtain ⟨_,_,_,hsl⟩:=hO.find
 obtain ⟨ba,bc,rfl,_⟩:=SlF.open hvb
 generalize hbl:b.length=bl at hvb hvo h2 ⊢
 have hfar:0<b.length→far c.p (.slice ba bl bc):=fun hp k hk=>by
  have:=hvo (by omega) k hk
  cases e:c.p.r k with
  | none=>rfl
  | some y=>exact absurd ⟨1,.inr (.inr ⟨c,hcm,.inr (by rw [e];rfl)⟩)⟩ this
 have kW:∀X,Fr [] w X→Calls Tryz.prog 40 #[.pointer (some ⟨S.cb,0,none⟩),strL S.s,.int .i64 a,.slice ba bl bc] X (chResPost X S.cb S.mb 60 S.L S.s (wrRes S p c a b)):=fun X hX=>chWrite_calls S.s p S.n c a (.slice ba bl bc) b (h.ch.fr0 hX) hO.ims hO.path hc hO.max (by have:=hO.deep;omega) (by have:=hO.n;omega) (SlF.fr0 hvb hX) hfar
 have hdr:=(Fr.refl [] w).drew
 have n0:¬chO S.cb S.mb S.L S.wb:=fun hk=>h.sep.off 0 1 S.wb (by decide) rfl hk
 have n1':¬chO S.cb S.mb S.L b1:=fun hk=>n1 ⟨1,hk⟩
 have n2':¬chO S.cb S.mb S.L b2:=fun hk=>n2 ⟨1,hk⟩
 have hS0:Blk w.drew S.wb (simC S) 65∧Blk w.drew b1 [.pointer (some ⟨S.wb,0,none⟩)] 25∧Blk w.drew b2 (stepC kd a g (.slice ba bl bc) nm ot kv) 34:=⟨h.blk.drew,h1.drew,h2.drew⟩
 have hlb:=fun X (hX:Blk X S.wb (simC S) 65)=>Blk.cell hX
 unfold simC at hlb
 unfold chResPost at kW ⊢
 generalize wrRes S p c a b=R at kW ⊢
 clear h hO h1 h2 hvb hfar hvo hbl hc hcm
 go_enter Tryz.func39,Tryz.ntmps39
 go_wp2_with fail
 refine wp_region_G (fun X=>Blk X S.wb (simC S) 65∧Blk X b1 [.pointer (some ⟨S.wb,0,none⟩)] 25∧Blk X b2 (stepC kd a g (.slice ba bl bc) nm ot kv) 34) [(true,0),(true,1),(true,2),(true,3),(true,4),(true,5),(true,6),(true,7),(true,8),(true,9),(true,10),(true,11),(false,12),(true,13)] (by as_aux_lemma=>kernel_rfl) (by as_aux_lemma=>kernel_rfl) (hS0) ?_
 simp only [inOrder,jD,jE,jF,jG]
 refine wpG_val (.pointer (some ⟨S.wb,0,none⟩)) (by first | rfl | go_simp) (fun X hX=>by have cc:=Blk.cell hX.2.1;go_simp) ?_
 simp only [Act.put,jA,jB,jC]
 iterate 2 (refine wpG_pure fun K hK=>?_;go_simp;refine hK _ ?_;clear hK K)
 refine wpG_val (.pointer (some ⟨S.cb,0,none⟩)) (by first | rfl | go_simp) (fun X hX=>by have cc:=hlb _ hX.1;go_simp) ?_
 simp only [Act.put,jA,jB,jC]
 refine wpG_val (.pointer (some ⟨S.wb,0,none⟩)) (by first | rfl | go_simp) (fun X hX=>by have cc:=Blk.cell hX.2.1;go_simp) ?_
 simp only [Act.put,jA,jB,jC]
 iterate 2 (refine wpG_pure fun K hK=>?_;go_simp;refine hK _ ?_;clear hK K)
 refine wpG_val (strL S.s) (by first | rfl | go_simp) (fun X hX=>by have cc:=hlb _ hX.1;go_simp) ?_
 simp only [Act.put,jA,jB,jC]
 iterate 1 (refine wpG_pure fun K hK=>?_;go_simp;refine hK _ ?_;clear hK K)
 refine wpG_val (.int .i64 a) (by first | rfl | go_simp) (fun X hX=>by have cc:=Blk.cell hX.2.2;go_simp) ?_
 simp only [Act.put,jA,jB,jC]
 iterate 1 (refine wpG_pure fun K hK=>?_;go_simp;refine hK _ ?_;clear hK K)
 refine wpG_val (.slice ba bl bc) (by first | rfl | go_simp) (fun X hX=>by have cc:=Blk.cell hX.2.2;go_simp) ?_
 simp only [Act.put,jA,jB,jC]
 refine wpG_one fun K hK=>?_
 go_simp
 refine (kW _ hdr).mono ?_
 rintro e w5 ⟨i,rfl,hi,p',h5,hs5⟩
 refine hK _ _ (⟨hs5.blk hS0.1 n0,hs5.blk hS0.2.1 n1',hs5.blk hS0.2.2 n2'⟩) ?_
 clear hK K
 iterate 1 (refine wpG_pure fun K hK=>?_;go_simp;refine hK _ ?_;clear hK K)
 refine wpG_end ?_
 have hfin:=hidIt (And.intro hi (And.intro h5 ((StepO.fr0 hdr).trans hs5)))
 clear h5 hs5 kW hS0 hi
 go_wp2
 go_ret
 exact ⟨_,rfl,rfl,p',hfin.out.2.1,hfin.out.2.2⟩
def aftW (S:SimS) (p':Pl) (r:Int × Img) (a g:Int):SimS:={ S with L:=setK S.L S.s p' r.2,E:=if r.1=0 then allC S.E (wrE a g) else S.E }
theorem feet_all (E:List Cel) (f:Ent→Ent):feet (allC E f)=feet E:=feet_chC E _ f
theorem SimW.dirWr (h:SimW w S) {a g:Int} (hc:DirW w' S.db S.dm (allC S.E (wrE a g))) (hf:Fr (feet S.E) w w'):SimW w' { S with E:=allC S.E (wrE a g) }∧StepO w (allF (simF S)) w' (allF (simF { S with E:=allC S.E (wrE a g) })) :=
 h.dirE hc ⟨⟨_,hf,fun k hk _=>by simp only [homes,List.mem_cons];exact .inr (.inr hk)⟩,fun k hk=>.inl (by simp only [homes,feet_all] at hk ⊢;exact hk)⟩
def chgPost (w:World) (S:SimS) (r:Int × Img) (a g:Int) (J:SimS→SimS→Prop) (e:Ending) (w':World):Prop :=
 e=.returned (.int .i64 r.1)∧∃p' S',J (aftW S p' r a g) S'∧SimW w' S'∧StepO w (allF (simF S)) w' (allF (simF S'))
theorem sChange_quiet (h:SimW w S) (hO:OkW S p) (c:Cd) (hc:fK S.L S.s=some c) (b1 b2:Nat) (kd a g':Int) (g:Nat) (vb:Value) (b nm ot:By) (kv:Value) (h1:Blk w b1 [.pointer (some ⟨S.wb,0,none⟩)] 25) (h2:Blk w b2 (stepC kd a g' vb nm ot kv) 34)
 (hvb:SlY w vb b) (hvo:0<b.length→∀k,vb.ownBlock=some k→¬allF (simF S) k) (n1:¬allF (simF S) b1) (n2:¬allF (simF S) b2) (hg:g≤4611686018427387904) (hm:S.j.mp=.pointer none) (hq:S.j.pp=.pointer none) :
 Calls Tryz.prog 38 #[.pointer (some ⟨S.wb,0,none⟩),.int .i64 a,.int .i64 (g:Int),.func (.func 39) #[] #[.pointer (some ⟨b1,0,none⟩),.pointer (some ⟨b2,0,none⟩)]] w (chgPost w S (wrRes S p c a b) a (g:Int) fun A S'=>S'=A):=by
 have kW:=sWrite1_calls h hO c hc b1 b2 kd a g' vb b nm ot kv h1 h2 hvb hvo n1 n2
 have c0:=h.cell
 unfold simC at c0
 rw [hm,hq] at c0
 generalize wrRes S p c a b=r at kW ⊢
 clear hO hc h1 h2 hvb hvo n1 n2
 unfold chResPost at kW
 go_enter Tryz.func38,Tryz.ntmps38
 go_wp2_with fail
 refine kW.mono ?_
 rintro e w1 ⟨i,rfl,rfl,p',hch,hst⟩
 obtain ⟨hS1,hst1⟩:=h.chain hch hst
 clear kW hch hst c0
 have c1:=hS1.cell
 unfold simC at c1
 simp only [hm,hq] at c1
 have kd:=dWrite_calls S.db S.dm S.E a (g:Int) w1 hS1.dir (by omega)
 by_cases h0:r.1=0
 case neg =>
  have hfin:=hidIt (show ∃p' S',S'=aftW S p' r a (g:Int)∧SimW w1 S'∧StepO w (allF (simF S)) w1 (allF (simF S')) from ⟨p',_,rfl,by unfold aftW;rw [if_neg h0];exact hS1,by unfold aftW;rw [if_neg h0];exact hst1⟩)
  clear hS1 hst1 kd h c1
  go_wp2
  go_ret
  exact ⟨rfl,hfin.out⟩
 go_wp2_with fail
 refine kd.mono ?_
 rintro e w2 ⟨rfl,hD,hf2⟩
 obtain ⟨hS2,hst2⟩:=hS1.dirWr hD hf2
 have c2:=hS2.cell
 unfold simC at c2
 simp only [hm,hq] at c2
 have hfin:=hidIt (show ∃p' S',S'=aftW S p' r a (g:Int)∧SimW w2 S'∧StepO w (allF (simF S)) w2 (allF (simF S')) from ⟨p',_,rfl,by unfold aftW;rw [if_pos h0];exact hS2,by unfold aftW;rw [if_pos h0];exact hst1.trans hst2⟩)
 clear hS1 hst1 kd h c1 hS2 hst2 hD hf2
 go_wp2
 go_ret
 exact ⟨by rw [h0];rfl,hfin.out⟩
end
end Go.Proofs.YtffnihooekbcnaaGreat
