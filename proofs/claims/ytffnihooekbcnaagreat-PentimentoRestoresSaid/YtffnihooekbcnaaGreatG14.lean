/-
  Package chain: New, Add.
-/
import Derived.Test.YtffnihooekbcnaaGreatG13
set_option maxRecDepth 100000
set_option maxHeartbeats 6400000
namespace Go.Proofs.YtffnihooekbcnaaGreat
open Go.RowKit Go.Maps
attribute [local go_sem] mapAt_alloc mapAt_setCell mapAt_drew mapAt_drewN cells_str store_str eql_str neq_str guard_str len_str
section
variable {ex:By→Prop} {w w':World} {cb mb bits room:Nat} {L:List Cd}
theorem ChG.ne (h:ChG ex w cb mb bits room L):cb≠mb∧∀c∈L,c.db≠mb:=by
 obtain ⟨es,c,hm,_⟩:=h.map
 refine ⟨?_,fun d hd=>?_⟩
 ·rintro rfl
  have:=(mapAt_some.1 hm).symm.trans h.blk
  cases this
 ·intro e
  have hb:=h.dks d hd
  rw [e] at hb
  have:=(mapAt_some.1 hm).symm.trans hb
  cases this
theorem ChG.ins {c:Cd} {es':Array MapEntry} {clock':Nat} (h:ChG ex w cb mb bits room L) (hex:∀c∈L,¬ex c.nm) (hf:Fr [mb] w w') (hm':mapAt w' mb=some (es',clock')) (hi':IsM Tryz.prog 9 es' clock' (upd (nlM Cd.nm Cd.ptr L) (strL c.nm) (some c.ptr)))
 (hn:fK L c.nm=none) (hB:Blk w' c.db [.pointer (some ⟨c.ib,0,none⟩),strL c.x.bk] 121) (hI:ImgW w' c.ib c.p c.x.M) (hnew:∀k,(c.p.r k).isSome=true→w.heap.size≤k) (hdb:w.heap.size≤c.db) (hdp:c.p.r c.db=none) :
 ChG ex w' cb mb bits room (nlIns Cd.nm c L):=by
 obtain ⟨es,clock,hm,hi⟩:=h.map
 have hne:=h.ne
 have hmem:∀{d:Cd},d∈nlIns Cd.nm c L ↔ d=c∨d∈L:=mem_nlIns
 have hnone:∀k,k<w.heap.size→c.p.r k=none:=fun k hk=>by
  cases e:c.p.r k with
  | none=>rfl
  | some x=>have:=hnew k (by rw [e];rfl);omega
 have hold:∀d∈L,∀k,w.heap.size≤k→d.p.r k=none:=fun d hd k hk=>by
  cases e:d.p.r k with
  | none=>rfl
  | some x=>have:=h.low d hd (hex d hd) k (by rw [e];rfl);omega
 refine ⟨h.blk.fr hf (by simp [hne.1]),⟨es',clock',hm',by rw [←nlM_ins h.rising hn];exact hi'⟩,fun d hd=>?_,fun d hd he=>?_,nlIns_rising c h.rising (nlFind_none.1 hn),fun d hd e he hde=>?_,fun d hd=>?_,fun d hd _ k hk=>?_⟩
 ·rcases hmem.1 hd with rfl | hd'
  ·exact hB
  ·exact (h.dks d hd').fr hf (by simp [hne.2 d hd'])
 ·rcases hmem.1 hd with rfl | hd'
  ·exact hI
  ·exact (h.img d hd' he).fr hf fun k hk=>by rw [List.mem_singleton.1 hk];exact (h.hm d hd').2.1
 ·rcases hmem.1 hd with h1 | hd' <;> rcases hmem.1 he with h2 | he'
  ·rw [h1,h2] at hde;exact absurd rfl hde
  ·rw [h1];exact ⟨fun k hk=>hold e he' k (hnew k hk),fun e'=>by have:=(h.dks e he').lt;omega⟩
  ·rw [h2];exact ⟨fun k hk=>hnone k (h.low d hd' (hex d hd') k hk),fun e'=>by have:=(h.dks d hd').lt;omega⟩
  ·exact h.ap d hd' e he' hde
 ·have hdb':∀e∈nlIns Cd.nm c L,e=c∨e.db<w.heap.size:=fun e he=>by
   rcases hmem.1 he with h1 | he'
   ·exact .inl h1
   ·exact .inr (h.dks e he').lt
  rcases hmem.1 hd with h1 | hd'
  ·rw [h1]
   refine ⟨hnone _ h.blk.lt,hnone _ (mapAt_lt hm),fun e=>by have:=h.blk.lt;omega,fun e he=>?_⟩
   rcases hdb' e he with h2 | h2
   ·rw [h2];exact hdp
   ·exact hnone _ h2
  ·obtain ⟨h1,h2,h3,h4⟩:=h.hm d hd'
   refine ⟨h1,h2,h3,fun e he=>?_⟩
   rcases hmem.1 he with h5 | he'
   ·rw [h5];exact hold d hd' _ hdb
   ·exact h4 e he'
 ·rcases hmem.1 hd with h1 | hd'
  ·rw [h1] at hk;exact hI.low k hk
  ·exact Nat.lt_of_lt_of_le (h.low d hd' (hex d hd') k hk) hf.size
def newChPost (w:World) (bits room:Nat) (e:Ending) (w':World):Prop:=∃cb mb,e=.returned (.tuple #[.pointer (some ⟨cb,0,none⟩),.int .i64 0])∧ChW w' cb mb bits room []∧(w.heap.size≤cb∧w.heap.size≤mb)∧Fr [] w w'
theorem chNew_calls (bits room:Nat) (w:World) (hB:bits≤3) (hr:room≤512):Calls Tryz.prog 32 #[.int .i64 (bits:Int),.int .i64 (room:Int)] w (newChPost w bits room):=by
 have hmm:=@run_makeMap Tryz.prog
 have kN:=fun W=>iNew_yes bits 0 room W (by unfold okSeat;omega)
 go_enter Tryz.func32,Tryz.ntmps32
 go_wp2_with fail
 refine (kN _).mono ?_
 rintro e w1 ⟨ib,p,rfl,_,_,hf1⟩
 clear kN
 go_wp2
 go_ret2
 have hz:=hf1.size
 refine ⟨w1.heap.size+1,w1.heap.size,rfl,⟨?_,⟨#[],0,?_,?_⟩,by simp,by simp,List.Pairwise.nil,by simp,by simp,by simp⟩,by omega,(hf1.alloc _).alloc _⟩
 ·exact Blk.new' (by simp) [_,_,_] _
 ·rw [mapAt_alloc _ (by simp),mapAt_some]
  exact heap_alloc_new w1 _
 ·have:=IsM.empty (P:=Tryz.prog) (K:=9)
  have he:(fun _=>none)=nlM Cd.nm Cd.ptr []:=nlM_ext (by simp) (by simp [nlFind])
  rwa [he] at this
def chAddE (L:List Cd) (nm bk:By) (p:List By):Int:=if okName nm=false then 1 else if (fK L nm).isSome=true∨16≤L.length then 143 else if bk≠[]∧8<p.length+1 then 142 else 0
def chAddPost (ex:By→Prop) (w:World) (cb mb bits room n:Nat) (L:List Cd) (nm bk:By) (p:List By) (e:Ending) (w':World):Prop :=
 e=.returned (.int .i64 (chAddE L nm bk p))∧((chAddE L nm bk p≠0∧Fr [] w w')∨(chAddE L nm bk p=0∧∃c:Cd,c.x=⟨nm,bk,newI bits n room⟩∧ChG ex w' cb mb bits room (nlIns Cd.nm c L)∧Fr [mb] w w'∧(∀k,(c.p.r k).isSome=true→w.heap.size≤k)∧w.heap.size≤c.db))
theorem chAdd_calls (nm bk:By) (p:List By) (n:Nat) (h:ChG ex w cb mb bits room L) (hex:∀c∈L,¬ex c.nm) (hB:bits≤3) (hr:room≤512) (hn:n≤256) (hbk:bk=[]∨IsPath (L.map (·.x)) bk p) (hnm:nm.length≤maxLen) (hnl:∀c∈L,c.nm.length≤maxLen) (hp8:p.length≤8) (hne:∀c∈L,c.nm≠[]) :
 Calls Tryz.prog 33 #[.pointer (some ⟨cb,0,none⟩),strL nm,.int .i64 (n:Int),strL bk] w (chAddPost ex w cb mb bits room n L nm bk p):=by
 have he:Value.string ⟨#[]⟩=strL []:=rfl
 have hdr:=(Fr.refl [] w).drew
 have hck:=fun X (hX:Fr [] w X)=>(h.blk.fr0 hX).cell
 have kN:=fun W=>iNew_yes bits n room W (by unfold okSeat;omega)
 have hbl:bk.length≤maxLen:=by
  rcases hbk with rfl | hb
  ·exact Nat.zero_le _
  ·obtain ⟨d,hd,_⟩:=hb.find
   obtain ⟨c,hc,_⟩:=fK_of hd
   obtain ⟨h1,h2⟩:=nlFind_mem hc
   rw [←h2];exact hnl c h1
 unfold chAddPost
 obtain ⟨E,hE⟩:∃E,Hid (chAddE L nm bk p=E):=⟨_,hidIt rfl⟩
 rw [hE.out]
 go_enter Tryz.func33,Tryz.ntmps33
 rw [he]
 go_wp2_with fail
 refine wp_region_G (fun X=>Fr [] w.drew X) [(true,0),(true,1),(true,2),(true,3),(true,4),(true,5),(true,6),(true,7),(true,8),(false,9),(true,10),(true,11),(true,12),(true,13),(true,14)] (by as_aux_lemma=>kernel_rfl) (by as_aux_lemma=>kernel_rfl) (Fr.refl _ _) ?_
 simp only [inOrder,jD,jE,jF,jG]
 iterate 3 (refine wpG_pure fun K hK=>?_;go_simp;refine hK _ ?_;clear hK K)
 refine wpG_val (.int .i64 (bits:Int)) (by first | rfl | go_simp) (fun X hX=>by have cc:=hck X (hdr.trans0 hX);go_simp) ?_
 simp only [Act.put,jA,jB,jC]
 iterate 4 (refine wpG_pure fun K hK=>?_;go_simp;refine hK _ ?_;clear hK K)
 refine wpG_val (.int .i64 (room:Int)) (by first | rfl | go_simp) (fun X hX=>by have cc:=hck X (hdr.trans0 hX);go_simp) ?_
 simp only [Act.put,jA,jB,jC]
 refine wpG_one fun K hK=>?_
 go_simp
 refine (kN _).mono ?_
 rintro e w1 ⟨ib,pp,rfl,hI1,hnew1,hf1⟩
 refine hK _ _ (hf1) ?_
 clear hK K
 iterate 5 (refine wpG_pure fun K hK=>?_;go_simp;refine hK _ ?_;clear hK K)
 refine wpG_end ?_
 have hF1:=hdr.trans0 hf1
 simp only [World.size_drew] at hnew1
 clear kN hf1
 go_wp2_with fail
 refine (nRight_calls nm w1).mono ?_
 rintro e w2 ⟨rfl,hf2⟩
 have hF2:=hF1.trans0 hf2
 have hI2:=hI1.fr0 hf2
 have h2:=h.fr0 hF2
 have c2:=h2.blk.cell
 by_cases hok:okName nm=true
 case neg =>
  have hok':okName nm=false:=by simpa using hok
  obtain rfl:E=1:=by rw [←hE.out];unfold chAddE;rw [if_pos hok']
  rw [hok']
  clear hE hok hok'
  go_wp2
  go_ret
  exact ⟨rfl,.inl ⟨by decide,hF2⟩⟩
 obtain ⟨es,clock,hm,hi⟩:=h2.map
 have hlk:=lookK hi hnm w2 hm
 have hsz:=nl_size h2.rising hi
 have hlen:=fun ty=>run_len_map (P:=Tryz.prog) (ty:=ty) Tryz.underlying115 w2 hm
 by_cases hfree:(fK L nm).isSome=true∨16≤L.length
 case pos =>
  obtain rfl:E=143:=by rw [←hE.out];unfold chAddE;rw [if_neg (by rw [hok];decide),if_pos hfree]
  rw [hok]
  cases hc:fK L nm with
  | some c =>
    rw [hc] at hlk
    unfold kpt Cd.ptr at hlk
    clear hE hok hlen hsz
    go_wp2
    go_ret
    exact ⟨rfl,.inl ⟨by decide,hF2⟩⟩
  | none =>
    rw [hc] at hlk hfree
    unfold kpt at hlk
    have h16:(16:Int)≤es.size:=by
     rcases hfree with h | h
     ·cases h
     ·omega
    clear hE hok hsz hfree
    go_wp2
    go_ret
    exact ⟨rfl,.inl ⟨by decide,hF2⟩⟩
 have hnone:fK L nm=none:=by
  cases hc:fK L nm with
  | none=>rfl
  | some c=>exact absurd (.inl (by rw [hc];rfl)) hfree
 have h16:¬(16:Int)≤es.size:=by
  have:¬16≤L.length:=fun h=>hfree (.inr h)
  omega
 rw [hnone] at hlk
 unfold kpt at hlk
 have hknown:(decide (bk=[]) || (fK L bk).isSome)=true:=by
  rcases hbk with rfl | hb
  ·rfl
  ·obtain ⟨d,hd,_⟩:=hb.find
   obtain ⟨c,hc,_⟩:=fK_of hd
   rw [hc];simp
 have kK:=chKnown_calls bk h2 hbl
 rw [hknown] at kK
 rw [hok]
 clear hsz hknown
 go_wp2_with fail
 refine kK.mono ?_
 rintro e w3 ⟨rfl,rfl⟩
 clear kK
 have fin:∀W,Fr [] w3 W→∃w9,(Instr.mapUpdate 115 (.map (some mb)) (strL nm) (.pointer (some ⟨W.heap.size,0,none⟩))).run Tryz.prog (W.alloc (.cells #[.pointer (some ⟨ib,0,none⟩),strL bk] 121))=.ok () w9 ∧
  Hid (∃c:Cd,c.x=⟨nm,bk,newI bits n room⟩∧ChG ex w9 cb mb bits room (nlIns Cd.nm c L)∧Fr [mb] w w9∧(∀k,(c.p.r k).isSome=true→w.heap.size≤k)∧w.heap.size≤c.db):=fun W hW=>by
  have hm3:mapAt (W.alloc (.cells #[.pointer (some ⟨ib,0,none⟩),strL bk] 121)) mb=some (es,clock):=by
   have:=mapAt_fr hm hW (by simp)
   rw [mapAt_alloc _ (mapAt_lt this)]
   exact this
  obtain ⟨es',clock',hr,hi'⟩:=run_mapUpdate_isM (P:=Tryz.prog) Tryz.underlying115 keyedStr hi (keyStr hnm) (.pointer (some ⟨W.heap.size,0,none⟩)) _ hm3
  have hfa:=(Fr.refl [] W).alloc (.cells #[.pointer (some ⟨ib,0,none⟩),strL bk] 121)
  have hf3:=putMap_fr (W.alloc (.cells #[.pointer (some ⟨ib,0,none⟩),strL bk] 121)) mb es' clock'
  have hmlt:=mapAt_lt hm3
  have hW3:=h2.fr0 (hW.trans0 hfa)
  have hI3:=(hI2.fr0 (hW.trans0 hfa)).fr hf3 (fun k hk=>by
   rw [List.mem_singleton.1 hk]
   cases e:pp.r mb with
   | none=>rfl
   | some x =>
     have:=hnew1 mb (by rw [e];rfl)
     have h5:=h.lt hex (.inr (.inl rfl)) (k:=mb)
     omega)
  have hz2:=hF2.size
  have hzW:=hW.size
  have hBd:Blk (putMap (W.alloc (.cells #[.pointer (some ⟨ib,0,none⟩),strL bk] 121)) mb es' clock') W.heap.size [.pointer (some ⟨ib,0,none⟩),strL bk] 121 :=
   (Blk.new W [.pointer (some ⟨ib,0,none⟩),strL bk] 121).fr hf3 (by
     have h5:=h.lt hex (.inr (.inl rfl)) (k:=mb)
     simp
     omega)
  have hpW:pp.r W.heap.size=none:=hI2.new hzW
  refine ⟨_,hr,hidIt ⟨⟨⟨nm,bk,newI bits n room⟩,W.heap.size,ib,pp⟩,rfl,?_,((hF2.trans0 hW).trans0 hfa).weak.trans' hf3,hnew1,by show w.heap.size≤W.heap.size;omega⟩⟩
  exact h.ins hex (((hF2.trans0 hW).trans0 hfa).weak.trans' hf3) (mapAt_putMap hmlt es' clock') hi' hnone hBd hI3 hnew1 (by show w.heap.size≤W.heap.size;omega) hpW
 rcases hbk with rfl | hpath
 ·obtain rfl:E=0:=by rw [←hE.out];unfold chAddE;rw [if_neg (by rw [hok];decide),if_neg hfree,if_neg (fun h=>h.1 rfl)]
  obtain ⟨w9,hr,Hf⟩:=fin w3 (Fr.refl _ _)
  have c3:=c2
  clear fin hE hok hfree hlk hlen h2 hI2
  go_wp2
  go_ret
  first | exact ⟨rfl,.inr ⟨rfl,Hf.out⟩⟩ | exact ⟨rfl,Hf.out⟩ | exact Hf.out
 obtain ⟨d,hd,_⟩:=hpath.find
 obtain ⟨c,hc,_⟩:=fK_of hd
 have hb0:bk≠[]:=by
  obtain ⟨h1,h2⟩:=nlFind_mem hc
  exact fun e=>hne c h1 (h2.trans e)
 have hb':decide (bk=[])=false:=decide_eq_false hb0
 have kB:=chBelow_calls bk p h2 hpath hnl (by omega)
 obtain ⟨S,hS⟩:∃S,Hid (strL bk=Value.string S):=⟨_,hidIt rfl⟩
 have hq:binOp .neq 9 (.string S) (strL [])=pure (.bool true):=by rw [←hS.out,neq_str,hb'];rfl
 have hg:∀(op:BinOp) (x y:Operand) (w:World),(eqGuard op 9 x y (.string S) (strL [])).run Tryz.prog w=.ok () w:=fun op x y w=>by rw [←hS.out];exact guard_str _ _ _ _ _ _
 rw [hS.out] at kB ⊢
 go_wp2_with fail
 refine kB.mono ?_
 rintro e w4 ⟨v,rfl,ho,hf4⟩
 obtain ⟨av,cv,rfl,_⟩:=Sl.of_owns ho
 have hF4:=hF2.trans0 hf4
 have c4:=(h2.blk.fr0 hf4).cell
 by_cases hdeep:8<p.length+1
 ·obtain rfl:E=142:=by rw [←hE.out];unfold chAddE;rw [if_neg (by rw [hok];decide),if_neg hfree,if_pos ⟨hb0,hdeep⟩]
  have hd':(8:Int)<(p.length:Int)+1:=by omega
  clear fin hE hok hfree hlk hlen h2 hI2 ho kB c2
  go_wp2
  go_ret
  first | exact ⟨rfl,.inl ⟨by decide,hF4⟩⟩ | exact ⟨rfl,hF4⟩ | exact hF4
 ·obtain rfl:E=0:=by rw [←hE.out];unfold chAddE;rw [if_neg (by rw [hok];decide),if_neg hfree,if_neg (fun h=>hdeep h.2)]
  have hd':¬(8:Int)<(p.length:Int)+1:=by omega
  obtain ⟨w9,hr,Hf⟩:=fin w4 hf4
  rw [hS.out] at hr
  clear fin hE hok hfree hlk hlen h2 hI2 ho kB c2
  go_wp2
  go_ret
  first | exact ⟨rfl,.inr ⟨rfl,Hf.out⟩⟩ | exact ⟨rfl,Hf.out⟩ | exact Hf.out
end
end Go.Proofs.YtffnihooekbcnaaGreat
namespace Go.Proofs.YtffnihooekbcnaaGreat
open Go.RowKit Go.Maps
attribute [local go_sem] mapAt_alloc mapAt_setCell mapAt_drew mapAt_drewN
theorem owns_built {w:World} {b base:Nat} {v:Value} {t:TypeId} (h:Blk w b [v] t) (hb:base≤b):w.ownsRow base t 1 (.slice (some ⟨b,0,none⟩) 1 1) 1 [v] :=
 ⟨rfl,.inr ⟨b,1,#[v],rfl,hb,h,Nat.le_refl _,by unfold maxLen;omega,rfl,rfl⟩⟩
end Go.Proofs.YtffnihooekbcnaaGreat
namespace Go.Proofs.YtffnihooekbcnaaGreat
open Go.RowKit Go.Maps
attribute [local go_sem] mapAt_alloc mapAt_setCell mapAt_drew mapAt_drewN cells_str store_str eql_str neq_str guard_str len_str
def ImsK (n:Nat) (L:List Cd):Prop:=∀c∈L,OkI c.x.M∧c.x.M.B=1∧c.x.M.t.length=n
theorem ImsK.z {n:Nat} {L:List Cd} (h:ImsK n L):∀d∈L.map (·.x),OkJ d.M∧d.M.z=32:=fun d hd=>by
 obtain ⟨c,hc,rfl⟩:=List.mem_map.1 hd
 obtain ⟨h1,h2,_⟩:=h c hc
 exact ⟨h1.toOkJ,by unfold Img.z;rw [h2]⟩
theorem flatK_len (l:List By):(l.flatMap strC).length=l.length:=by
 induction l with
 | nil=>rfl
 | cons x l ih=>rw [List.flatMap_cons,List.length_append,ih];simp;omega
theorem flatK_one (l:List By):∀y∈l.flatMap strC,y.oneCell'=true:=fun y hy=>by
 obtain ⟨x,_,hx⟩:=List.mem_flatMap.1 hy
 rw [List.mem_singleton.1 hx];rfl
def seenPost (w:World) (b:By) (e:Ending) (w':World):Prop:=∃v a,e=.returned (.tuple #[v,.int .i64 a])∧SlY w' v b∧okV v∧(∀k,v.ownBlock=some k→w.heap.size≤k)∧Fr [] w w'
theorem read_clu {M:Img} (h:OkJ M) (hB:M.B=1) (k:Nat):readI M (k*2) 2=conC M k:=by
 have hz:M.z=32:=by unfold Img.z;rw [hB]
 have h1:=con_seg h (c:=k) (f:=0) (t:=M.z) (Nat.zero_le _) (Nat.le_refl _)
 have h2:=h.conc k
 rw [List.drop_zero,Nat.sub_zero,Nat.add_zero,List.take_of_length_le (by omega)] at h1
 unfold readI
 rw [h1,hz,show 16*(k*2)=k*32 by omega]
section
variable {ex:By→Prop} {w w':World} {cb mb room:Nat} {L:List Cd}
theorem chSeen_calls (s:By) (p:List By) (n k:Nat) (h:ChG noEx w cb mb 1 room L) (hI:ImsK n L) (hp:IsPath (L.map (·.x)) s p) (hn:∀c∈L,c.nm.length≤maxLen) (hp8:p.length≤64) (hk:k<n) (hn2:n≤256) :
 Calls Tryz.prog 131 #[.pointer (some ⟨cb,0,none⟩),strL s,.int .i64 (k:Int)] w (seenPost w (seenC (L.map (·.x)) 32 (s :: p) k)):=by
 have hck:=fun X (hX:Fr [] w X)=>(h.blk.fr0 hX).cell
 have c0:=hck w (Fr.refl _ _)
 have hlen:∀t c,fK L t=some c→t.length≤maxLen:=fun t c hc=>by
  obtain ⟨h1,h2⟩:=nlFind_mem hc
  rw [←h2]
  exact hn c h1
 have kB:=fun X (hX:Fr [] w X)=>chBelow_calls s p (h.fr0 hX) hp hn hp8
 obtain ⟨S,hS⟩:∃S,Hid (strL s=Value.string S):=⟨_,hidIt rfl⟩
 rw [hS.out] at kB ⊢
 have hall:∀t∈s :: p,∃c,fK L t=some c:=fun t ht=>by
  obtain ⟨d,hd⟩:=hp.mem ht
  obtain ⟨c,hc,_⟩:=fK_of hd
  exact ⟨c,hc⟩
 obtain ⟨R,hR⟩:∃R,Hid (seenC (L.map (·.x)) 32 (s :: p) k=R):=⟨_,hidIt rfl⟩
 rw [hR.out]
 go_enter Tryz.func131,Tryz.ntmps131
 go_wp2_with fail
 refine (kB _ ((Fr.refl [] w).alloc _)).mono ?_
 rintro e w2 ⟨v,rfl,ho,hf2⟩
 have B1:=(Blk.new w [Value.string S] 9).fr0 hf2
 have hz1:=hf2.size
 have hown:=owns_built (base:=w.heap.size) B1 (Nat.le_refl _)
 have hsl:=Sl.of_owns ho
 have hokv:=okV.of_owns ho
 go_wp2_with (at_builtin;refine Hid.out ?_)
 refine hidIt ?_
 refine wpList_append_sl 27 9 _ 1 16 Tryz.underlying27 infoTxK rfl (by decide) (by decide) rfl _ _ rfl w.heap.size _ _ _ rfl hown v p.length (p.flatMap strC) hsl hokv (by rw [flatK_len,Nat.mul_one]) (flatK_one p) rfl (by omega) (by omega) (by simp at hz1;omega) ?_
 intro v' w3 hown3 hgrow
 have hF3:Fr [] w w3:=(((Fr.refl [] w).alloc _).trans0 hf2).grown hgrow (fun y hy=>.inr (own_base hown y hy))
 have hfl:(s :: p).flatMap strC=[Value.string S]++p.flatMap strC:=by rw [List.flatMap_cons,←hS.out]
 rw [←hfl,Nat.add_comm] at hown3
 have hv3:SlT w3 v' (s :: p):=SlF.of_owns (by rw [List.length_cons];exact hown3)
 obtain ⟨a3,q3,rfl,_⟩:=Sl.of_owns hown3
 have hlen2:(s :: p).length=p.length+1:=List.length_cons
 have hsee:Hid (R=seenC (L.map (·.x)) 32 ((s :: p).drop 0) k):=hidIt hR.out.symm
 clear hR
 have hlk:=fun X (hX:Fr [] w X) t c (hc:fK L t=some c)=>h.look (hlen t c hc) X hX
 have hdk:=fun X (hX:Fr [] w X) (c:Cd) (hc:c∈L)=>((h.dks c hc).fr0 hX).cell 0
 have him:=fun X (hX:Fr [] w X) (c:Cd) (hc:c∈L)=>(h.img c hc (fun h=>h)).fr0 hX
 generalize hN:s :: p=N at *
 clear hown3 hown ho hsl hokv hgrow hfl B1 kB c0 hp hf2 hS hlen
 go_wp2_with fail
 go_loopw [9,10,11,12,13,26] (fun _ _ _ _ _ i wr=>∃j:Nat,j≤p.length+1∧i=.int .i64 (j:Int)∧Fr [] w3 wr∧Hid (R=seenC (L.map (·.x)) 32 (N.drop j) k)) (fun _ _ _ _ _ i _=>p.length+1 - (intOf i).toNat)
 case atStart=>exact ⟨0,Nat.zero_le _,rfl,Fr.refl _ _,hsee⟩
 clear hsee
 obtain ⟨j,hj,rfl,hF,hsee⟩:=hrel
 have hFw:=hF3.trans0 hF
 by_cases hlt:j<p.length+1
 case neg =>
  have hje:j=p.length+1:=by omega
  subst hje
  obtain rfl:R=zBy 32:=by
   rw [hsee.out,List.drop_eq_nil_of_le (by omega)]
   rfl
  clear hsee hlk hdk him hall
  obtain ⟨w9,hrun,hown9,hg9⟩:=makeY 32 wr (by omega)
  have hf9:=(Fr.refl [] wr).grown hg9 (fun x hx=>by cases hx)
  have hrun':(Instr.makeSlice 31 (.int .i64 32) (.int .i64 32)).run Tryz.prog wr=.ok (.slice (some ⟨wr.heap.size,0,none⟩) 32 32) w9:=hrun
  have hsz:=hFw.size
  clear hrun
  go_wp2
  go_ret2
  refine ⟨_,0,rfl,SlF.of_owns hown9,fun n c h=>(by cases h),fun k hk=>?_,hFw.trans0 hf9⟩
  have:wr.heap.size=k:=by simpa [Value.ownBlock] using hk
  omega
 have hNj:j<N.length:=by omega
 obtain ⟨bn,on,rfl,hbn,dn⟩:=SlT.at (SlF.fr0 hv3 hF) (i:=j) hNj
 have htm:N.getD j []∈N:=by rw [List.getD_eq_getElem?_getD,List.getElem?_eq_getElem hNj];exact List.getElem_mem hNj
 have hdrop:N.drop j=N.getD j [] :: N.drop (j+1):=by
  rw [List.drop_eq_getElem_cons hNj,List.getD_eq_getElem?_getD,List.getElem?_eq_getElem hNj];rfl
 obtain ⟨c,hc⟩:=hall _ htm
 rw [hdrop] at hsee
 generalize N.getD j []=t at *
 have hcm:=(nlFind_mem hc).1
 obtain ⟨hok,hB,htl⟩:=hI c hcm
 have hfd:fD (L.map (·.x)) t=some c.x:=by rw [fK_D,hc];rfl
 have hse:Hid (R=visC c.x.M k (seenC (L.map (·.x)) 32 (N.drop (j+1)) k)):=hidIt (by rw [hsee.out,seenC_some hfd])
 have hl:=hlk wr hFw t c hc
 rw [hc] at hl
 unfold kpt Cd.ptr at hl
 have cd:=hdk wr hFw c hcm
 have cc:=hck wr hFw
 have hIw:=him wr hFw c hcm
 have kS:=iSize_calls wr hIw
 have kK:=fun X (hX:Fr [] wr X)=>iKind_calls (k:Int) X (hIw.fr0 hX)
 have kR:=fun X (hX:Fr [] wr X)=>iRead_calls ((k*2:Nat):Int) 2 X (hIw.fr0 hX) hok
 have hin:insideI c.x.M ((k*2:Nat):Int) 2=0:=inside_nat (a:=k*2) (n:=2) (by rw [hB,htl];omega)
 have hrd:=read_clu hok.toOkJ hB k
 simp only [tget_nat] at kK
 unfold readPost at kR
 rw [hin] at kR
 simp only [if_true,Int.toNat_natCast,show Int.toNat 2=2 from rfl,hrd] at kR
 rw [htl] at kS
 have hkn:(k:Int)<(n:Int):=by omega
 obtain ⟨K,hK⟩:∃K:Nat,Hid (k*2=K):=⟨_,hidIt rfl⟩
 rw [hK.out] at kR
 have hmul:(k:Int)*2=(K:Int):=by have:=hK.out;omega
 have hmw:IntKind.i64.wrap (K:Int)=(K:Int):=IntWalk.i64_in _ (by have:=hK.out;omega)
 have hsz:=hFw.size
 clear hsee hlk hdk him hall hck hIw hin hrd
 unfold visC at hse
 generalize conC c.x.M k=T at *
 generalize (c.x.M.t.getD k zS).1=kd at *
 by_cases hk0:kd=0
 case pos =>
  subst hk0
  have hse':Hid (R=seenC (L.map (·.x)) 32 (N.drop (j+1)) k):=hidIt (by rw [hse.out,if_pos rfl])
  clear hse kR
  go_wp2_with fail
  refine kS.mono ?_
  rintro e w5 ⟨rfl,rfl⟩
  go_wp2_with fail
  refine (kK _ (Fr.refl _ _)).mono ?_
  rintro e w6 ⟨rfl,hf6⟩
  clear kS kK hl cd cc dn
  go_wp2
  go_roundw
  case rel=>exact ⟨j+1,by omega,by go_num,hF.trans0 hf6,hse'⟩
  case measure=>simp [intOf];omega
 have hk0':(kd == 0)=false:=by simpa using hk0
 obtain rfl:R=T:=by rw [hse.out,if_neg hk0]
 clear hse
 go_wp2_with fail
 refine kS.mono ?_
 rintro e w5 ⟨rfl,rfl⟩
 go_wp2_with fail
 refine (kK _ (Fr.refl _ _)).mono ?_
 rintro e w6 ⟨rfl,hf6⟩
 clear kS kK hl cd cc dn
 go_wp2_with fail
 refine (kR _ hf6).mono ?_
 rintro e w7 ⟨v,rfl,hsv,hov,hnv,hf7⟩
 have hz6:=hf6.size
 clear kR
 go_wp2
 go_ret2
 exact ⟨_,_,rfl,hsv,hov,fun y hy=>by have:=hnv y hy;omega,(hFw.trans0 hf6).trans0 hf7⟩
def viewK (L:List Cd) (n:Nat) (s:By) (p:List By) (k:Nat):By:=if k<n then seenC (L.map (·.x)) 32 (s :: p) k else []
def viewPost (w:World) (b:By) (e:Ending) (w':World):Prop:=∃v,e=.returned v∧SlY w' v b∧okV v∧(∀k,v.ownBlock=some k→w.heap.size≤k)∧Fr [] w w'
theorem chCluster_calls (s:By) (p:List By) (n k:Nat) (h:ChG noEx w cb mb 1 room L) (hI:ImsK n L) (hp:IsPath (L.map (·.x)) s p) (hn:∀c∈L,c.nm.length≤maxLen) (hp8:p.length≤64) (hn2:n≤256) :
 Calls Tryz.prog 74 #[.pointer (some ⟨cb,0,none⟩),strL s,.int .i64 (k:Int)] w (viewPost w (viewK L n s p k)):=by
 have cc:=h.blk.cell
 obtain ⟨d,hd,_⟩:=hp.find
 obtain ⟨c,hc,_⟩:=fK_of hd
 obtain ⟨hcm,hcn⟩:=nlFind_mem hc
 have hl:=h.look (s:=s) (by rw [←hcn];exact hn c hcm) w (Fr.refl _ _)
 rw [hc] at hl
 unfold kpt Cd.ptr at hl
 have cd:=(h.dks c hcm).cell 0
 have kS:=iSize_calls w (h.img c hcm (fun h=>h))
 rw [(hI c hcm).2.2] at kS
 have kZ:=fun hk=>chSeen_calls s p n k h hI hp hn hp8 hk hn2
 unfold viewK
 clear h hI hp hn hd hc
 by_cases hk:k<n
 ·rw [if_pos hk]
  replace kZ:=kZ hk
  unfold seenPost at kZ
  generalize seenC (L.map (·.x)) 32 (s :: p) k=R at *
  have hkn:(k:Int)<(n:Int):=by omega
  clear hk
  go_enter Tryz.func74,Tryz.ntmps74
  go_wp2_with fail
  refine kS.mono ?_
  rintro e w2 ⟨rfl,rfl⟩
  go_wp2_with fail
  refine kZ.mono ?_
  rintro e w3 ⟨v,a,rfl,hsv,hov,hnv,hf3⟩
  clear kS kZ
  go_wp2
  go_ret
  exact ⟨_,rfl,hsv,hov,hnv,hf3⟩
 ·rw [if_neg hk]
  have hkn:(n:Int)≤(k:Int):=by omega
  clear hk kZ
  go_enter Tryz.func74,Tryz.ntmps74
  go_wp2_with fail
  refine kS.mono ?_
  rintro e w2 ⟨rfl,rfl⟩
  clear kS
  go_wp2
  go_ret
  exact ⟨_,rfl,slY_nil _,fun n c h=>(by cases h;rfl),fun y hy=>(by cases hy),Fr.refl _ _⟩
end
def secV (V:Nat→By) (i:Nat):By:=((V (i / 2)).drop (16*(i % 2))).take 16
def secsV (V:Nat→By) (a l:Nat):By:=(List.range l).flatMap fun i=>secV V (a+i)
theorem secsV_succ (V:Nat→By) (a l:Nat):secsV V a (l+1)=secsV V a l++secV V (a+l):=by
 unfold secsV
 rw [List.range_succ,List.flatMap_append]
 simp
theorem secV_len {V:Nat→By} {i:Nat} (h:(V (i / 2)).length=32):(secV V i).length=16:=by
 unfold secV
 rw [List.length_take,List.length_drop,h]
 omega
theorem secsV_len {V:Nat→By} {a l:Nat} (h:∀i,i<a+l→(V (i / 2)).length=32):(secsV V a l).length=16*l:=by
 induction l with
 | zero=>rfl
 | succ l ih =>
   rw [secsV_succ,List.length_append,ih fun i hi=>h i (by omega),secV_len (h _ (by omega))]
   omega
theorem and_one (n:Nat) (hn:n<1024):bits .and .i64 (n:Int) 1=((n % 2:Nat):Int):=by
 have key:∀m:Fin 1024,bits BinOp.and IntKind.i64 (m.val:Int) 1=((m.val % 2:Nat):Int):=by decide
 exact key ⟨n,hn⟩
section
variable {w w':World} {cb mb room:Nat} {L:List Cd}
def chReadPost (w:World) (b:By) (e:Ending) (w':World):Prop:=∃v,e=.returned (.tuple #[v,.int .i64 0])∧SlY w' v b∧okV v∧(∀k,v.ownBlock=some k→w.heap.size≤k)∧Fr [] w w'
theorem chRead_calls (s:By) (p:List By) (n a l:Nat) (h:ChG noEx w cb mb 1 room L) (hI:ImsK n L) (hp:IsPath (L.map (·.x)) s p) (hn:∀c∈L,c.nm.length≤maxLen) (hp8:p.length≤64) (hn2:n≤256) (hal:a+l≤n*2) :
 Calls Tryz.prog 37 #[.pointer (some ⟨cb,0,none⟩),strL s,.int .i64 (a:Int),.int .i64 (l:Int)] w (chReadPost w (secsV (viewK L n s p) a l)):=by
 have cc:=h.blk.cell
 have hck:=fun X (hX:Fr [] w X)=>(h.blk.fr0 hX).cell
 obtain ⟨d,hd,_⟩:=hp.find
 obtain ⟨c,hc,_⟩:=fK_of hd
 obtain ⟨hcm,hcn⟩:=nlFind_mem hc
 obtain ⟨hok,hB,htl⟩:=hI c hcm
 have hl:=h.look (s:=s) (by rw [←hcn];exact hn c hcm) w (Fr.refl _ _)
 rw [hc] at hl
 unfold kpt Cd.ptr at hl
 have cd:=(h.dks c hcm).cell 0
 have kR:=iRead_calls (a:Int) (l:Int) w (h.img c hcm (fun h=>h)) hok
 have hin:insideI c.x.M (a:Int) (l:Int)=0:=inside_nat (by rw [hB,htl];omega)
 unfold readPost at kR
 rw [hin] at kR
 have kC:=fun X (hX:Fr [] w X) k=>chCluster_calls s p n k (h.fr0 hX) hI hp hn hp8 hn2
 have hlen:∀i,i<a+l→((viewK L n s p (i / 2))).length=32:=fun i hi=>by
  unfold viewK
  rw [if_pos (by omega)]
  exact seenC_len hI.z _ _
 unfold viewPost at kC
 clear h hI hp hn hd hc hok hB htl
 generalize viewK L n s p=V at *
 go_enter Tryz.func37,Tryz.ntmps37
 go_wp2_with fail
 refine kR.mono ?_
 rintro e w2 ⟨v,rfl,_,_,_,hf2⟩
 clear kR hl cd cc
 go_wp2_with fail
 go_loopw [13,14,15,16] (fun v i _ _ wr=>∃k:Nat,k≤l∧i=.int .i64 ((a+k:Nat):Int)∧wr.ownsRow w2.heap.size 5 1 v (16*k) ((secsV V a k).flatMap byC)∧Fr [] w2 wr) (fun _ i _ _ _=>a+l - (intOf i).toNat)
 case atStart=>exact ⟨0,Nat.zero_le _,by simp,World.ownsRow_nil _ _ _ _,Fr.refl _ _⟩
 case round =>
  obtain ⟨k,hk,rfl,ho,hF⟩:=hrel
  have hFw:=hf2.trans0 hF
  obtain ⟨av,cv,rfl,_⟩:=Sl.of_owns ho
  obtain ⟨x,hx⟩:∃x:Nat,Hid (x=a+k):=⟨_,hidIt rfl⟩
  rw [←hx.out]
  have hal':(a:Int)+(l:Int)=((a+l:Nat):Int):=by push_cast;rfl
  obtain ⟨A,hA⟩:∃A:Nat,Hid (A=a+l):=⟨_,hidIt rfl⟩
  rw [←hA.out] at hal'
  have hAw:IntKind.i64.wrap (A:Int)=(A:Int):=IntWalk.i64_in _ (by have:=hA.out;omega)
  by_cases hlt:k<l
  case neg =>
   have hke:k=l:=by omega
   subst hke
   have hxA:¬(x:Int)<(A:Int):=by have:=hx.out;have:=hA.out;omega
   clear kC hck
   go_wp2
   go_ret2
   have hz:=hf2.size
   refine ⟨_,rfl,SlF.of_owns (by rw [secsV_len hlen];exact ho),okV.of_owns ho,fun y hy=>by have:=own_base ho y hy;omega,hFw⟩
  have hxA:(x:Int)<(A:Int):=by have:=hx.out;have:=hA.out;omega
  have hdr:=(Fr.refl [] wr).drew
  have hw2:IntKind.i64.wrap 2=2:=by decide
  have hw1:IntKind.i64.wrap (2 - 1)=1:=by decide
  obtain ⟨K,hK⟩:∃K:Nat,Hid (K=x / 2):=⟨_,hidIt rfl⟩
  have hw0:IntKind.i64.wrap 1=1:=by decide
  obtain ⟨r,hr⟩:∃r:Nat,Hid (r=x % 2):=⟨_,hidIt rfl⟩
  have hand:bits .and .i64 (x:Int) 1=(r:Int):=by rw [and_one x (by have:=hx.out;omega),hr.out]
  obtain ⟨F,hF16⟩:∃F:Nat,Hid (F=16*r):=⟨_,hidIt rfl⟩
  have hmF:(r:Int)*16=(F:Int):=by have:=hF16.out;omega
  have hr2:r<2:=by have:=hr.out;omega
  have hF8:F≤16:=by have:=hF16.out;omega
  have hwF:IntKind.i64.wrap (F:Int)=(F:Int):=IntWalk.i64_in _ (by omega)
  have hxK:(x:Int) / 2=(K:Int):=by have:=hK.out;omega
  go_wp2_with fail
  refine wp_region_G (fun X=>Fr [] wr.drew X) [(true,0),(true,1),(true,2),(true,3),(true,4),(true,5),(true,6),(true,7),(true,8),(true,9),(true,10),(true,11),(true,12),(true,13),(true,14),(true,15),(true,16)] (by as_aux_lemma=>kernel_rfl) (by as_aux_lemma=>kernel_rfl) (Fr.refl _ _) ?_
  simp only [inOrder,jD,jE,jF,jG]
  iterate 4 (refine wpG_pure fun K hK=>?_;go_simp;refine hK _ ?_;clear hK K)
  refine wpG_val (.int .i64 1) (by first | rfl | go_simp) (fun X hX=>by have cc:=hck X (hFw.trans0 (hdr.trans0 hX));go_simp) ?_
  simp only [Act.put,jA,jB,jC]
  iterate 5 (refine wpG_pure fun K hK=>?_;go_simp;refine hK _ ?_;clear hK K)
  refine wpG_val (.int .i64 1) (by first | rfl | go_simp) (fun X hX=>by have cc:=hck X (hFw.trans0 (hdr.trans0 hX));go_simp) ?_
  simp only [Act.put,jA,jB,jC]
  iterate 6 (refine wpG_pure fun K hK=>?_;go_simp;refine hK _ ?_;clear hK K)
  refine wpG_end ?_
  have hFd:=hFw.trans0 hdr
  have kC':=kC _ hFd K
  have hVl:=hlen x (by have:=hx.out;omega)
  rw [←hK.out] at hVl
  have hsx:=hidIt (secsV_succ V a k)
  have hse:Hid (secV V (a+k)=((V K).drop F).take 16):=hidIt (by unfold secV;rw [←hx.out,←hK.out,←hr.out,←hF16.out])
  have hsl':=hidIt (secV_len (V:=V) (i:=a+k) (by rw [←hx.out,←hK.out];exact hVl))
  have hnl:=secsV_len (V:=V) (a:=a) (l:=k) (fun i hi=>hlen i (by omega))
  have hzd:=hFd.size
  have hz2:=hf2.size
  have hzr:=hF.size
  have ho2:=owns_drew ho
  clear hck kC hlen
  generalize V K=C at *
  go_wp2_with fail
  refine kC'.mono ?_
  rintro e w6 ⟨v6,rfl,hv6,hok6,hn6,hf6⟩
  obtain ⟨a6,c6,rfl,hlc6,_⟩:=SlF.open hv6
  obtain ⟨g6,o6,rfl,_⟩:=SlY.at hv6 (i:=0) (by omega)
  obtain ⟨T,hT⟩:∃T:Nat,Hid (T=F+16):=⟨_,hidIt rfl⟩
  have hFT:(F:Int)+16=(T:Int):=by have:=hT.out;omega
  have hwT:IntKind.i64.wrap (T:Int)=(T:Int):=IntWalk.i64_in _ (by have:=hT.out;omega)
  have hc1:T≤c6:=by have:=hT.out;omega
  have hc2:F≤T:=by have:=hT.out;omega
  have hc3:¬c6=F:=by have:=hT.out;omega
  have hTF:T - F=16:=by have:=hT.out;omega
  have hsl:=SlF.mid 1 (fun _=>rfl) hv6 (m:=F) (j:=T) (by have:=hT.out;omega) hc2
  have hsa:slAddr (some ⟨g6,o6,none⟩) c6 F 1=some ⟨g6,o6+F,none⟩:=by simp [slAddr,hc3,Addr.add]
  have hsn:((C.take T).drop F)=((C.drop F).take 16):=by rw [List.drop_take,hTF]
  rw [hsa,hsn] at hsl
  have hl16:((C.drop F).take 16).length=16:=by rw [List.length_take,List.length_drop];omega
  unfold SlF at hsl
  rw [hl16,hTF] at hsl
  have ho6:=owns_fr ho2 hf6 (fun _ _ h=>by cases h)
  rw [hVl] at hlc6
  have hc1':32≤c6:=hlc6
  clear kC'
  go_wp2_with (at_builtin;refine Hid.out ?_)
  refine hidIt ?_
  refine wpList_append_slL 31 5 (.int .u8 0) 1 1 Tryz.underlying31 infoY rfl (by decide) (by decide) rfl _ _ rfl w2.heap.size _ (16*k) ((secsV V a k).flatMap byC) rfl ho6 (.slice (some ⟨g6,o6+F,none⟩) 16 (c6 - F)) 16 _ hsl (fun _ _ h=>by cases h) (by rw [flatY_length,hl16]) (flat_one (fun _=>by_one) _) (by first | rfl | (rw [←hTF];rfl)) (by omega) (by omega) (by have:=hf6.size;have:=hdr.size;omega) ?_
  intro v' w7 hown7 hgrow hloc
  have hF7:Fr [] w2 w7:=((hF.trans0 hdr).trans0 hf6).grown hgrow (fun y hy=>.inr (own_base ho6 y hy))
  have hfl:(secsV V a (k+1)).flatMap byC=(secsV V a k).flatMap byC++((C.drop F).take 16).flatMap byC:=by rw [hsx.out,List.flatMap_append,hse.out]
  rw [←hfl] at hown7
  obtain ⟨a7,q7,rfl,_⟩:=Sl.of_owns hown7
  clear hgrow hloc ho6 ho2 ho hsl
  go_wp2
  go_roundw
  case rel=>exact ⟨k+1,by omega,by rw [hx.out];go_num,by rw [Nat.mul_add];exact hown7,hF7⟩
  case measure=>simp [intOf];have:=hx.out;have:=hA.out;omega
end
end Go.Proofs.YtffnihooekbcnaaGreat
