/-
  Package list: Add.
-/
import Derived.Test.YtffnihooekbcnaaGreatG18
set_option maxRecDepth 100000
set_option maxHeartbeats 6400000
namespace Go.Proofs.YtffnihooekbcnaaGreat
open Go.RowKit Go.Maps
attribute [local go_sem] mapAt_alloc mapAt_setCell mapAt_drew mapAt_drewN cells_str store_str eql_str neq_str guard_str len_str
theorem infoPc:(Tryz.prog.info? 71).map (fun i=>(i.zero,i.size,i.bytes))=some (some (.agg #[.int .i64 0,.slice none 0 0]),2,32):=by kernel_rfl
theorem infoBk:(Tryz.prog.info? 60).map (fun i=>(i.zero,i.size,i.bytes))=some (some (.agg #[.string ⟨#[]⟩,.string ⟨#[]⟩,.int .i64 0,.int .i64 0,.slice none 0 0]),5,72):=by kernel_rfl
structure MadP (w:World) (H:Nat) (u:Value) (xs:List Pcv):Prop where
 row:w.ownsRow H 71 2 u xs.length (xs.flatMap pvC)
 byt:∀x∈xs,SlY w x.2.2 x.2.1∧inO (fun k=>H≤k∧k<w.heap.size∧u.ownBlock≠some k) x.2.2∧okV x.2.2
section
variable {w w':World} {H:Nat} {u u':Value} {xs:List Pcv}
theorem MadP.nil (w:World) (H:Nat):MadP w H (.slice none 0 0) []:=⟨World.ownsRow_nil _ _ _ _,fun x hx=>by cases hx⟩
theorem MadP.fr0 (h:MadP w H u xs) (hf:Fr [] w w'):MadP w' H u xs :=
 ⟨owns_fr h.row hf (by simp),fun x hx=>⟨SlF.fr0 (h.byt x hx).1 hf,fun k hk=>by have:=(h.byt x hx).2.1 k hk;exact ⟨this.1,Nat.lt_of_lt_of_le this.2.1 hf.size,this.2.2⟩,(h.byt x hx).2.2⟩⟩
theorem MadP.more (h:MadP w H u xs) {x:Pcv} (ho:w'.ownsRow H 71 2 u' (xs.length+1) (xs.flatMap pvC++pvC x)) (hf:Fr u.ownBlock.toList w w') (hob:∀y,u'.ownBlock=some y→u.ownBlock=some y∨w.heap.size≤y)
 (h1:SlY w' x.2.2 x.2.1) (h2:okV x.2.2) (h3:inO (fun k=>H≤k∧k<w'.heap.size∧u'.ownBlock≠some k) x.2.2):MadP w' H u' (xs++[x]):=by
 refine ⟨by rw [List.length_append,List.flatMap_append,List.flatMap_cons,List.flatMap_nil,List.append_nil];exact ho,fun y hy=>?_⟩
 rcases List.mem_append.1 hy with hy | hy
 ·obtain ⟨g1,g2,g3⟩:=h.byt y hy
  refine ⟨SlF.fr g1 hf fun k hk hm=>(g2 k hk).2.2 (by simpa using hm),fun k hk=>⟨(g2 k hk).1,Nat.lt_of_lt_of_le (g2 k hk).2.1 hf.size,fun e=>?_⟩,g3⟩
  rcases hob k e with h9 | h9
  ·exact (g2 k hk).2.2 h9
  ·have:=(g2 k hk).2.1;omega
 ·rw [List.mem_singleton.1 hy]
  exact ⟨h1,h3,h2⟩
theorem MadP.pcs (h:MadP w H u xs) {o:Nat→Prop} (ho:∀k,H≤k→k<w.heap.size→o k):PcsW w o u xs :=
 ⟨SlF.of_owns h.row,fun k hk=>ho k (own_base h.row k hk) (h.row.lt k hk).2,fun x hx=>⟨(h.byt x hx).1,fun k hk=>ho k ((h.byt x hx).2.1 k hk).1 ((h.byt x hx).2.1 k hk).2.1,(h.byt x hx).2.2⟩⟩
end
section
variable {w w':World} {o oy:Nat→Prop} {lb:Nat} {v:Value} {ys:List Bkv}
def lsAddPost (w:World) (lb:Nat) (o:Nat→Prop) (ys:List Bkv) (y:Bkv) (e:Ending) (w':World):Prop :=
 e=.returned (.int .i64 0)∧∃o' v' y',LstW w' lb o' v' (ys++[y'])∧y'.1=y.1∧StepO w o w' o'
theorem lsAdd_root (y:Bkv) (h:LstW w lb o v ys) (hy:BakW w oy y) (hg:GoodB y.1) (hnm:fdI ys y.1.nm=none) (hpa:y.1.pa=[]) (hl:ys.length<64) :
 Calls Tryz.prog 99 #[.pointer (some ⟨lb,0,none⟩),bvV y] w (lsAddPost w lb o ys y):=by
 obtain ⟨va,vcap,rfl,hvl,hvm,_⟩:=SlF.open h.sl
 obtain ⟨a,cap,hpv,hlc,hcm,_⟩:=SlF.open hy.pcs.sl
 have hplen:=hg.plen
 rw [hy.ps,unP_len] at hplen
 have hn256:=hg.n
 have kR:=fun X (hX:Fr [] w X)=>lsRight_calls (o:=oy) y X (hy.fr hX (by simp)) hg
 have kFp:=fun X (hX:Fr [] w X)=>lsFind_calls y.1.pa (h.fr0 hX)
 have kFn:=fun X (hX:Fr [] w X)=>lsFind_calls y.1.nm (h.fr0 hX)
 rw [hnm] at kFn
 unfold fdV at kFn
 simp only at kFn
 unfold bvV at kR ⊢
 rw [hpv] at kR ⊢
 have hpd:decide (y.1.pa=[])=true:=decide_eq_true hpa
 obtain ⟨N,hN⟩:∃S,Hid (strL y.1.nm=Value.string S):=⟨_,hidIt rfl⟩
 obtain ⟨Q,hQ⟩:∃S,Hid (strL y.1.pa=Value.string S):=⟨_,hidIt rfl⟩
 have he:Value.string ⟨#[]⟩=strL []:=rfl
 have hq:binOp .neq 9 (.string Q) (strL [])=pure (.bool false):=by rw [←hQ.out,neq_str,hpd];rfl
 have hgd:∀(op:BinOp) (x y':Operand) (w:World),(eqGuard op 9 x y' (.string Q) (strL [])).run Tryz.prog w=.ok () w:=fun op x y' w=>by rw [←hQ.out];exact guard_str _ _ _ _ _ _
 rw [hN.out] at kR kFn ⊢
 rw [hQ.out] at kR kFp ⊢
 obtain ⟨W0,hW0⟩:∃W0,Hid (w.alloc (Obj.cells #[.string N,.string Q,.int .i64 1,.int .i64 (y.1.n:Int),.slice a y.2.2.length cap] 60)=W0):=⟨_,hidIt rfl⟩
 obtain ⟨bb,hbb⟩:∃y,Hid (w.heap.size=y):=⟨_,hidIt rfl⟩
 have hF0:Fr [] w W0:=by rw [←hW0.out];exact (Fr.refl [] w).alloc _
 have B0:Blk W0 bb [.string N,.string Q,.int .i64 1,.int .i64 (y.1.n:Int),.slice a y.2.2.length cap] 60:=by
  rw [←hW0.out]
  exact Blk.new' hbb.out.symm [.string N,.string Q,.int .i64 1,.int .i64 (y.1.n:Int),.slice a y.2.2.length cap] _
 have c0:=B0.cell
 go_enter Tryz.func99,Tryz.ntmps99
 rw [he]
 go_wp2_with fail
 rw [hW0.out,hbb.out]
 refine (kFp _ hF0).mono ?_
 rintro e w1 ⟨rfl,hf1⟩
 clear kFp
 have hF1:=hF0.trans0 hf1
 have c1:=(B0.fr0 hf1).cell
 go_wp2_with fail
 refine (kR _ hF1).mono ?_
 rintro e w2 ⟨rfl,hf2⟩
 clear kR c1
 have hF2:=hF1.trans0 hf2
 have c2:=(B0.fr0 (hf1.trans0 hf2)).cell
 go_wp2_with fail
 refine (kFn _ hF2).mono ?_
 rintro e w3 ⟨rfl,hf3⟩
 clear kFn c2
 have hF3:=hF2.trans0 hf3
 have B3:=B0.fr0 (hf1.trans0 (hf2.trans0 hf3))
 have c3:=B3.cell
 have h3:=h.fr0 hF3
 have cl:=h3.blk.cell
 have hl64:¬(64:Int)≤(ys.length:Int):=by omega
 go_wp2_with fail
 go_quiet (fail)
 go_wp2_with fail
 have hFd:=(Fr.refl [] w3).drewN nq
 have hF4:=hF3.trans0 hFd
 have B4:=B3.fr0 hFd
 have h4:=h3.fr0 hFd
 generalize w3.drewN nq=w4 at *
 obtain ⟨H,hH⟩:∃H,Hid (w4.heap.size=H):=⟨_,hidIt rfl⟩
 have hbbl:w.heap.size≤bb:=by rw [hbb.out];exact Nat.le_refl _
 have hbH:bb<H:=by have:=B4.lt;have:=hH.out;omega
 have hlbw:=h.blk.lt
 have hwH:w.heap.size≤H:=by have:=hF4.size;have:=hH.out;omega
 have hyp:=hy.pcs.sl
 have hyb:=hy.pcs.byt
 rw [hpv] at hyp
 have hyps:=hidIt hy.ps
 clear cl c3 h3 B3 hF3 hF2 hF1 hW0 B0 hF0 c0 hf1 hf2 hf3 hFd hy hpv
 go_loopw [6,60] (fun u i wr=>∃(k:Nat) (xs:List Pcv),k≤y.2.2.length∧i=.int .i64 (k:Int)∧MadP wr H u xs∧Hid (unP xs=unP (y.2.2.take k))∧Fr [] w4 wr∧H≤wr.heap.size) (fun _ i _=>y.2.2.length - (intOf i).toNat)
 case atStart=>exact ⟨0,[],Nat.zero_le _,rfl,MadP.nil _ _,hidIt rfl,Fr.refl _ _,by have:=hH.out;omega⟩
 case round =>
 obtain ⟨k,xs,hk,rfl,hM,hxs,hF,hHr⟩:=hrel
 have hxl:xs.length=k:=by
  have:=congrArg List.length hxs.out
  rw [unP_len,unP_len,List.length_take] at this
  omega
 have hF4r:=hF4.trans0 hF
 by_cases hlt:k<y.2.2.length
 case neg =>
  have hlt':¬(k:Int)<(y.2.2.length:Int):=by omega
  clear hxl
  obtain ⟨ua,uc,rfl,_⟩:=Sl.of_owns hM.row
  have B5:=B4.fr0 hF
  have c5:=B5.cell
  have f5:=B5.frozen
  have l5:=B5.lt
  have hs5:Fr [bb] wr (wr.setCell ⟨bb,4,none⟩ (.slice ua xs.length uc)):=(Fr.refl _ wr).setCell (.inl (by simp)) _
  have B6:=B5.setCell 4 (.slice ua xs.length uc)
  have hlow:=h.low
  have h6:=(h4.fr0 hF).fr hs5 (fun q hq hh=>by have:=hlow q hh;have:=List.mem_singleton.1 hq;omega)
  have hM6:MadP (wr.setCell ⟨bb,4,none⟩ (.slice ua xs.length uc)) H (.slice ua xs.length uc) xs:=by
   have hnb:∀q,H≤q→q ∉ [bb]:=fun q h1 hm=>by have:=List.mem_singleton.1 hm;omega
   exact ⟨owns_fr hM.row hs5 fun q hq=>hnb q (own_base hM.row q hq),fun x hx=>⟨SlF.fr (hM.byt x hx).1 hs5 fun q hq=>hnb q ((hM.byt x hx).2.1 q hq).1,fun q hq=>by have:=(hM.byt x hx).2.1 q hq;exact ⟨this.1,Nat.lt_of_lt_of_le this.2.1 hs5.size,this.2.2⟩,(hM.byt x hx).2.2⟩⟩
  have hF6:Fr [] w (wr.setCell ⟨bb,4,none⟩ (.slice ua xs.length uc)):=hF4r.trans1 hs5 hbbl
  have hH6:H≤(wr.setCell ⟨bb,4,none⟩ (.slice ua xs.length uc)).heap.size:=Nat.le_trans hHr hs5.size
  obtain ⟨W6,hW6⟩:∃W6,Hid (wr.setCell ⟨bb,4,none⟩ (.slice ua xs.length uc)=W6):=⟨_,hidIt rfl⟩
  rw [hW6.out] at hM6 h6 B6 hF6 hH6
  have hvown:=h.own
  have nbb:bb ∉ (Value.slice va ys.length vcap).ownBlock.toList:=fun hm=>by have:=hlow _ (hvown bb (by simpa using hm));omega
  have nlb:lb ∉ (Value.slice va ys.length vcap).ownBlock.toList:=fun hm=>h.ne (by simpa using hm)
  have h6d:=h6.blk.drew
  have B6d:=B6.drew
  have hrow6:=owns_drew h6.row
  have hz6:=hF6.size
  have hl65:ys.length≤64:=by omega
  go_wp2_with fail
  rw [hW6.out]
  clear hW6 hs5 c5 f5 l5 B5 hM
  refine wp_region_Z 10 (Fr (Value.slice va ys.length vcap).ownBlock.toList W6.drew) [(true,0),(true,1),(true,2),(true,3),(true,4),(true,5),(false,6),(false,7),(false,8),(true,9)] (by as_aux_lemma=>kernel_rfl) (by as_aux_lemma=>kernel_rfl) (Fr.refl _ _) ?_
  simp only [inOrder,jD,jE,jF,jG]
  iterate 4 (refine wpG_pure fun K hK=>?_;go_simp;refine hK _ ?_;clear hK K)
  refine wpG_val (.slice va ys.length vcap) (by first | rfl | go_simp) (fun X hX=>by have cc:=(h6d.fr hX nlb).cell;go_simp) ?_
  simp only [Act.put,jA,jB,jC]
  refine wpG_val (.agg #[.string N,.string Q,.int .i64 1,.int .i64 (y.1.n:Int),.slice ua xs.length uc]) (by first | rfl | go_simp) (fun X hX=>by have cc:=(B6d.fr hX nbb).cell;go_simp) ?_
  simp only [Act.put,jA,jB,jC]
  refine wpG_one fun K hK=>?_
  go_simp
  refine hK _ _ (((Fr.refl [] W6.drew).alloc _).weak) ?_
  clear hK K
  refine wpG_list rfl (fun _ _ h=>h) fun K hK=>?_
  refine wpList_append1 67 60 _ 5 72 Tryz.underlying67 infoBk rfl (by decide) (by decide) rfl _ _ rfl 0 (.slice va ys.length vcap) ys.length _ rfl (hrow6.alloc _) [.string N,.string Q,.int .i64 1,.int .i64 (y.1.n:Int),.slice ua xs.length uc] rfl (by intro y hy;simp at hy;rcases hy with rfl | rfl | rfl | rfl | rfl <;> rfl) W6.heap.size rfl (by first | exact Blk.new W6.drew [_,_,_,_,_] _ | exact (Blk.new W6 [_,_,_,_,_] _).drew) (by omega) (by simp) ?_
  intro v' w7 hown7 hgrow7 hloc7
  have hF7:Fr (Value.slice va ys.length vcap).ownBlock.toList W6.drew w7:=((Fr.refl [] W6.drew).alloc _).weak.trans' (Fr.of_grown hgrow7)
  refine hK _ (fun _ h=>h) _ _ hF7 ?_
  clear hK K
  have h57:=h6d.fr hF7 nlb
  have c5:=h57.cell
  have f5:=h57.frozen
  have l5:=h57.lt
  have hl7:∀q,v'.ownBlock=some q→(Value.slice va ys.length vcap).ownBlock=some q∨W6.heap.size≤q:=fun q hq=>by
   rcases hloc7 with h | h
   ·left;rw [←h,hq]
   ·right;rw [h] at hq;injection hq with hq;simp at hq;omega
  have hl7b:=hown7.lt
  obtain ⟨a7,c7,rfl,_⟩:=Sl.of_owns hown7
  refine wpG_one fun K hK=>?_
  go_simp
  refine hK _ _ hF7 ?_
  clear hK K
  iterate 1 (refine wpG_pure fun K hK=>?_;go_simp;refine hK _ ?_;clear hK K)
  refine wpG_last fun K hK=>?_
  go_simp
  refine hK _ _ ?_
  clear hK K
  have hs8:Fr [lb] w7 (w7.setCell ⟨lb,0,none⟩ (.slice a7 (ys.length+1) c7)):=(Fr.refl _ w7).setCell (.inl (by simp)) _
  have hB8:=h57.setCell 0 (.slice a7 (ys.length+1) c7)
  have hbc:([.string N,.string Q,.int .i64 1,.int .i64 (y.1.n:Int),.slice ua xs.length uc]:List Value)=bvC (y.1,.slice ua xs.length uc,xs):=by
   show _=[strL y.1.nm,strL y.1.pa,_,_,_]
   rw [hN.out,hQ.out]
  have hne7:(Value.slice a7 (ys.length+1) c7).ownBlock≠some lb:=fun e=>by
   rcases hl7 lb e with h9 | h9
   ·exact h.ne h9
   ·omega
  have how8:=owns_fr hown7 hs8 (fun q hq hm=>hne7 (by rw [←List.mem_singleton.1 hm];exact hq))
  have hFX:Fr (lb :: (Value.slice va ys.length vcap).ownBlock.toList) W6 (w7.setCell ⟨lb,0,none⟩ (.slice a7 (ys.length+1) c7)):=(((Fr.refl [] W6).drew.weak).trans' (hF7.mono (fun q hq _=>List.mem_cons_of_mem _ hq))).trans' (hs8.mono (fun q hq _=>by rw [List.mem_singleton.1 hq];exact List.mem_cons_self))
  have hPX:PcsW W6 (fun q=>H≤q∧q<W6.heap.size) (.slice ua xs.length uc) xs:=hM6.pcs fun q h1 h2=>⟨h1,h2⟩
  have hnew:∀q,H≤q∧q<W6.heap.size→q ∉ lb :: (Value.slice va ys.length vcap).ownBlock.toList:=fun q h1 hm=>by
   rcases List.mem_cons.1 hm with h9 | h9
   ·omega
   ·have:=hlow _ (hvown q (by simpa using h9));omega
  have hPY:=hPX.fr hFX fun q hq hh=>hnew q hh hq
  have hzX:=hFX.size
  have hLst:LstW (w7.setCell ⟨lb,0,none⟩ (.slice a7 (ys.length+1) c7)) lb (fun q=>o q∨(H≤q∧q<(w7.setCell ⟨lb,0,none⟩ (.slice a7 (ys.length+1) c7)).heap.size)) (.slice a7 (ys.length+1) c7) (ys++[(y.1,.slice ua xs.length uc,xs)]):=by
   refine ⟨hB8,?_,fun q hq=>?_,fun z hz=>?_,.inl h.ob,hne7,fun q hq=>?_⟩
   ·rw [List.length_append,List.flatMap_append,List.flatMap_cons,List.flatMap_nil,List.append_nil,←hbc]
    exact how8
   ·rcases hl7 q hq with h9 | h9
    ·exact .inl (hvown q h9)
    ·exact .inr ⟨by omega,(how8.lt q hq).2⟩
   ·rcases List.mem_append.1 hz with hz | hz
    ·refine ((h6.one z hz).fr hFX fun q hq hh=>?_).mono fun q hh=>⟨.inl hh.1,hh.2.1,fun e=>?_⟩
     ·rcases List.mem_cons.1 hq with h9 | h9
      ·exact hh.2.1 h9
      ·exact hh.2.2 (by simpa using h9)
     ·rcases hl7 q e with h9 | h9
      ·exact hh.2.2 h9
      ·have:=hlow q hh.1;omega
    ·rw [List.mem_singleton.1 hz]
     refine ⟨hPY.mono fun q hq=>⟨.inr ⟨hq.1,by omega⟩,by omega,fun e=>?_⟩,?_⟩
     ·rcases hl7 q e with h9 | h9
      ·have:=hlow _ (hvown q h9);omega
      ·omega
     ·show y.1.ps=unP xs
      rw [hyps.out,hxs.out,List.take_of_length_le (by omega)]
   ·rcases hq with hq | hq
    ·have:=hlow q hq;omega
    ·exact hq.2
  have hSt:StepO w o (w7.setCell ⟨lb,0,none⟩ (.slice a7 (ys.length+1) c7)) (fun q=>o q∨(H≤q∧q<(w7.setCell ⟨lb,0,none⟩ (.slice a7 (ys.length+1) c7)).heap.size)):=by
   refine ⟨⟨lb :: (Value.slice va ys.length vcap).ownBlock.toList,hF6.weak.trans' hFX,fun q hq _=>?_⟩,fun q hq=>?_⟩
   ·rcases List.mem_cons.1 hq with h9 | h9
    ·rw [h9];exact h.ob
    ·exact hvown q (by simpa using h9)
   ·rcases hq with hq | hq
    ·exact .inl hq
    ·exact .inr (by omega)
  have hfin:=hidIt (And.intro hLst hSt)
  clear hLst hSt hPY hPX hFX how8 hB8 hs8 hown7 h57 c5 f5 l5 hloc7 hF7 hgrow7 hrow6 h6d B6d h6 B6 hM6 hF6 h4 h
  go_wp2
  go_ret
  exact ⟨rfl,_,_,_,hfin.out.1,rfl,hfin.out.2⟩
 obtain ⟨b,off,rfl,hbb2,d0,d1⟩:=SlF.pcAt (SlF.fr0 hyp hF4r) hlt
 have hxm:=getD_memB hlt zPv
 obtain ⟨g1,g2,g3⟩:=hyb _ hxm
 obtain ⟨ba,bc,hbv,hbl,_⟩:=SlF.open g1
 have htk:Hid (unP (y.2.2.take (k+1))=unP (y.2.2.take k)++[((y.2.2.getD k zPv).1,(y.2.2.getD k zPv).2.1)]):=hidIt (by
  rw [List.take_succ_eq_append_getElem hlt,List.getD_eq_getElem?_getD,List.getElem?_eq_getElem hlt]
  unfold unP
  rw [List.map_append]
  rfl)
 have h32:(y.2.2.getD k zPv).2.1.length≤1048576:=by
  have:=(hg.ins _ (by rw [hyps.out];exact unP_at hlt)).2
  simp only at this
  omega
 rw [hbv] at d1 g1
 generalize hCk:(y.2.2.getD k zPv).1=C at *
 generalize hBk:(y.2.2.getD k zPv).2.1=bs at *
 clear hCk hBk hbv g2 g3 hxm
 have hfa:=(Fr.refl [] wr).alloc (.cells #[.int .i64 (C:Int),.slice ba bs.length bc] 71)
 have P3:=Blk.new wr [.int .i64 (C:Int),.slice ba bs.length bc] 71
 have P3d:=P3.drew
 have hFdr:=hfa.drew
 have hMd:=hM.fr0 hFdr
 have g1d:=SlF.fr0 (SlF.fr0 g1 hF4r) hFdr
 have hpw:wr.heap.size ∉ u6.ownBlock.toList:=fun hm=>by have:=(hM.row.lt wr.heap.size (by simpa using hm)).2;omega
 have hzr:wr.heap.size<(wr.alloc (.cells #[.int .i64 (C:Int),.slice ba bs.length bc] 71)).drew.heap.size:=by simp
 have kC:=CloneY_calls _ bs _ g1d h32
 go_wp2_with fail
 have hzA:(wr.alloc (.cells #[.int .i64 (C:Int),.slice ba bs.length bc] 71)).heap.size=wr.heap.size+1:=World.size_alloc _ _
 generalize wr.alloc (.cells #[.int .i64 (C:Int),.slice ba bs.length bc] 71)=A at *
 refine wp_region_G (fun X=>Fr u6.ownBlock.toList A.drew X) [(true,0),(true,1),(true,2),(true,3),(true,4),(false,5),(true,6),(false,7),(false,8),(true,9)] (by as_aux_lemma=>kernel_rfl) (by as_aux_lemma=>kernel_rfl) (Fr.refl _ _) ?_
 simp only [inOrder,jD,jE,jF,jG]
 iterate 2 (refine wpG_pure fun K hK=>?_;go_simp;refine hK _ ?_;clear hK K)
 refine wpG_val (.int .i64 (C:Int)) (by first | rfl | go_simp) (fun X hX=>by have cc:=(P3d.fr hX hpw).cell;go_simp) ?_
 simp only [Act.put,jA,jB,jC]
 iterate 1 (refine wpG_pure fun K hK=>?_;go_simp;refine hK _ ?_;clear hK K)
 refine wpG_val (.slice ba bs.length bc) (by first | rfl | go_simp) (fun X hX=>by have cc:=(P3d.fr hX hpw).cell;go_simp) ?_
 simp only [Act.put,jA,jB,jC]
 refine wpG_one fun K hK=>?_
 go_simp
 refine (kC).mono ?_
 rintro e w5 ⟨vc,rfl,hvc,hf5⟩
 refine hK _ _ (hf5.weak) ?_
 clear hK K
 obtain ⟨ca,cc,rfl,_⟩:=Sl.of_owns hvc
 iterate 1 (refine wpG_pure fun K hK=>?_;go_simp;refine hK _ ?_;clear hK K)
 have hM5:=hMd.fr0 hf5
 have hz5:=hf5.size
 refine wpG_one fun K hK=>?_
 go_simp
 refine hK _ _ ((hf5.alloc _).weak) ?_
 clear hK K
 refine wpG_list rfl (fun _ _ h=>h) fun K hK=>?_
 refine wpList_append1 58 71 _ 2 32 Tryz.underlying58 infoPc rfl (by decide) (by decide) rfl _ _ rfl H u6 xs.length _ rfl (hM5.row.alloc _) [.int .i64 (C:Int),.slice ca bs.length cc] rfl (by intro y hy;simp at hy;rcases hy with rfl | rfl <;> rfl) w5.heap.size rfl (Blk.new' rfl [_,_] _) (by omega) (by simp at hz5 ⊢;omega) ?_
 intro v' w7 hown7 hgrow7 hloc7
 have hF7:Fr u6.ownBlock.toList w5 w7:=((Fr.refl [] w5).alloc _).weak.trans' (Fr.of_grown hgrow7)
 have hFA:Fr u6.ownBlock.toList A.drew w7:=(hf5.weak).trans' hF7
 refine hK _ (fun _ h=>h) _ _ hFA ?_
 clear hK K
 iterate 1 (refine wpG_pure fun K hK=>?_;go_simp;refine hK _ ?_;clear hK K)
 refine wpG_end ?_
 have hvb:=own_base hvc
 have hvl2:=hvc.lt
 have hul:=hM.row.lt
 have hl7:∀q,v'.ownBlock=some q→u6.ownBlock=some q∨w5.heap.size≤q:=fun q hq=>by
  rcases hloc7 with h | h
  ·left;rw [←h,hq]
  ·right;rw [h] at hq;injection hq with hq;simp at hq;omega
 have hM7:=hM5.more (x:=(C,bs,.slice ca bs.length cc)) hown7 hF7 hl7 (SlF.fr (SlF.of_owns hvc) hF7 fun q hq hm=>by
  have h1:=hvb q hq
  have h2:=(hul q (by simpa using hm)).2
  simp at h1
  omega) (okV.of_owns hvc) (fun q hq=>by
  have h1:=hvb q hq
  have h2:=(hvl2 q hq).2
  have h3:=hF7.size
  simp at h1
  refine ⟨by omega,by omega,fun e=>?_⟩
  rcases hl7 q e with h9 | h9
  ·have:=(hul q h9).2;omega
  ·omega)
 have hFw7:Fr [] w4 w7:=hF.trans ((hFdr.weak).trans' hFA) (fun q hq hl=>by
  have:=own_base hM.row q (by simpa using hq)
  have:=hH.out
  omega)
 have hH7:H≤w7.heap.size:=by have:=hF7.size;simp at hz5;omega
 have hxs7:Hid (unP (xs++[(C,bs,.slice ca bs.length cc)])=unP (y.2.2.take (k+1))):=hidIt (by
  rw [htk.out,←hxs.out]
  unfold unP
  rw [List.map_append]
  rfl)
 have hfin:=hidIt (And.intro hM7 hFw7)
 clear hM7 hFw7 hFA hF7 hown7 hgrow7 hloc7 hl7 hM5 hvc hf5 kC d0 d1 P3 P3d hMd hM hF4r hFdr hfa g1 g1d
 go_wp2
 go_roundw
 case rel=>exact ⟨k+1,_,by omega,by go_num,hfin.out.1,hxs7,hfin.out.2,hH7⟩
 case measure=>simp [intOf];omega
theorem lsAdd_sub (y:Bkv) (h:LstW w lb o v ys) (hy:BakW w oy y) (hg:GoodB y.1) (hnm:fdI ys y.1.nm=none) (hpa:y.1.pa≠[]) (k0:Nat) (hk0:fdI ys y.1.pa=some k0) (hl:ys.length<64) :
 Calls Tryz.prog 99 #[.pointer (some ⟨lb,0,none⟩),bvV y] w (lsAddPost w lb o ys y):=by
 obtain ⟨va,vcap,rfl,hvl,hvm,_⟩:=SlF.open h.sl
 obtain ⟨a,cap,hpv,hlc,hcm,_⟩:=SlF.open hy.pcs.sl
 have hplen:=hg.plen
 rw [hy.ps,unP_len] at hplen
 have hn256:=hg.n
 have kR:=fun X (hX:Fr [] w X)=>lsRight_calls (o:=oy) y X (hy.fr hX (by simp)) hg
 have kFp:=fun X (hX:Fr [] w X)=>lsFind_calls y.1.pa (h.fr0 hX)
 have kFn:=fun X (hX:Fr [] w X)=>lsFind_calls y.1.nm (h.fr0 hX)
 rw [hnm] at kFn
 unfold fdV at kFn
 simp only at kFn
 unfold bvV at kR ⊢
 rw [hpv] at kR ⊢
 have hpd:decide (y.1.pa=[])=false:=decide_eq_false hpa
 have hk0l:=(fdI_some hk0).1
 rw [hk0] at kFp
 have hk00:¬(k0:Int)<0:=by omega
 unfold fdV at kFp
 simp only at kFp
 obtain ⟨N,hN⟩:∃S,Hid (strL y.1.nm=Value.string S):=⟨_,hidIt rfl⟩
 obtain ⟨Q,hQ⟩:∃S,Hid (strL y.1.pa=Value.string S):=⟨_,hidIt rfl⟩
 have he:Value.string ⟨#[]⟩=strL []:=rfl
 have hq:binOp .neq 9 (.string Q) (strL [])=pure (.bool true):=by rw [←hQ.out,neq_str,hpd];rfl
 have hgd:∀(op:BinOp) (x y':Operand) (w:World),(eqGuard op 9 x y' (.string Q) (strL [])).run Tryz.prog w=.ok () w:=fun op x y' w=>by rw [←hQ.out];exact guard_str _ _ _ _ _ _
 rw [hN.out] at kR kFn ⊢
 rw [hQ.out] at kR kFp ⊢
 obtain ⟨W0,hW0⟩:∃W0,Hid (w.alloc (Obj.cells #[.string N,.string Q,.int .i64 1,.int .i64 (y.1.n:Int),.slice a y.2.2.length cap] 60)=W0):=⟨_,hidIt rfl⟩
 obtain ⟨bb,hbb⟩:∃y,Hid (w.heap.size=y):=⟨_,hidIt rfl⟩
 have hF0:Fr [] w W0:=by rw [←hW0.out];exact (Fr.refl [] w).alloc _
 have B0:Blk W0 bb [.string N,.string Q,.int .i64 1,.int .i64 (y.1.n:Int),.slice a y.2.2.length cap] 60:=by
  rw [←hW0.out]
  exact Blk.new' hbb.out.symm [.string N,.string Q,.int .i64 1,.int .i64 (y.1.n:Int),.slice a y.2.2.length cap] _
 have c0:=B0.cell
 go_enter Tryz.func99,Tryz.ntmps99
 rw [he]
 go_wp2_with fail
 rw [hW0.out,hbb.out]
 refine (kFp _ hF0).mono ?_
 rintro e w1 ⟨rfl,hf1⟩
 clear kFp
 have hF1:=hF0.trans0 hf1
 have c1:=(B0.fr0 hf1).cell
 go_wp2_with fail
 refine (kR _ hF1).mono ?_
 rintro e w2 ⟨rfl,hf2⟩
 clear kR c1
 have hF2:=hF1.trans0 hf2
 have c2:=(B0.fr0 (hf1.trans0 hf2)).cell
 go_wp2_with fail
 refine (kFn _ hF2).mono ?_
 rintro e w3 ⟨rfl,hf3⟩
 clear kFn c2
 have hF3:=hF2.trans0 hf3
 have B3:=B0.fr0 (hf1.trans0 (hf2.trans0 hf3))
 have c3:=B3.cell
 have h3:=h.fr0 hF3
 have cl:=h3.blk.cell
 have hl64:¬(64:Int)≤(ys.length:Int):=by omega
 obtain ⟨bq,oq,heq,_,_,_,d2,_⟩:=SlF.bkAt h3.sl hk0l
 cases heq
 have hkl:(k0:Int)<(ys.length:Int):=by omega
 go_wp2_with fail
 go_quiet (fail)
 go_wp2_with fail
 have hFd:=(Fr.refl [] w3).drewN nq
 have hF4:=hF3.trans0 hFd
 have B4:=B3.fr0 hFd
 have h4:=h3.fr0 hFd
 generalize w3.drewN nq=w4 at *
 obtain ⟨H,hH⟩:∃H,Hid (w4.heap.size=H):=⟨_,hidIt rfl⟩
 have hbbl:w.heap.size≤bb:=by rw [hbb.out];exact Nat.le_refl _
 have hbH:bb<H:=by have:=B4.lt;have:=hH.out;omega
 have hlbw:=h.blk.lt
 have hwH:w.heap.size≤H:=by have:=hF4.size;have:=hH.out;omega
 have hyp:=hy.pcs.sl
 have hyb:=hy.pcs.byt
 rw [hpv] at hyp
 have hyps:=hidIt hy.ps
 clear cl c3 h3 B3 hF3 hF2 hF1 hW0 B0 hF0 c0 hf1 hf2 hf3 hFd hy hpv d2
 go_loopw [6,60] (fun u i wr=>∃(k:Nat) (xs:List Pcv),k≤y.2.2.length∧i=.int .i64 (k:Int)∧MadP wr H u xs∧Hid (unP xs=unP (y.2.2.take k))∧Fr [] w4 wr∧H≤wr.heap.size) (fun _ i _=>y.2.2.length - (intOf i).toNat)
 case atStart=>exact ⟨0,[],Nat.zero_le _,rfl,MadP.nil _ _,hidIt rfl,Fr.refl _ _,by have:=hH.out;omega⟩
 case round =>
 obtain ⟨k,xs,hk,rfl,hM,hxs,hF,hHr⟩:=hrel
 have hxl:xs.length=k:=by
  have:=congrArg List.length hxs.out
  rw [unP_len,unP_len,List.length_take] at this
  omega
 have hF4r:=hF4.trans0 hF
 by_cases hlt:k<y.2.2.length
 case neg =>
  have hlt':¬(k:Int)<(y.2.2.length:Int):=by omega
  clear hxl
  obtain ⟨ua,uc,rfl,_⟩:=Sl.of_owns hM.row
  have B5:=B4.fr0 hF
  have c5:=B5.cell
  have f5:=B5.frozen
  have l5:=B5.lt
  have hs5:Fr [bb] wr (wr.setCell ⟨bb,4,none⟩ (.slice ua xs.length uc)):=(Fr.refl _ wr).setCell (.inl (by simp)) _
  have B6:=B5.setCell 4 (.slice ua xs.length uc)
  have hlow:=h.low
  have h6:=(h4.fr0 hF).fr hs5 (fun q hq hh=>by have:=hlow q hh;have:=List.mem_singleton.1 hq;omega)
  have hM6:MadP (wr.setCell ⟨bb,4,none⟩ (.slice ua xs.length uc)) H (.slice ua xs.length uc) xs:=by
   have hnb:∀q,H≤q→q ∉ [bb]:=fun q h1 hm=>by have:=List.mem_singleton.1 hm;omega
   exact ⟨owns_fr hM.row hs5 fun q hq=>hnb q (own_base hM.row q hq),fun x hx=>⟨SlF.fr (hM.byt x hx).1 hs5 fun q hq=>hnb q ((hM.byt x hx).2.1 q hq).1,fun q hq=>by have:=(hM.byt x hx).2.1 q hq;exact ⟨this.1,Nat.lt_of_lt_of_le this.2.1 hs5.size,this.2.2⟩,(hM.byt x hx).2.2⟩⟩
  have hF6:Fr [] w (wr.setCell ⟨bb,4,none⟩ (.slice ua xs.length uc)):=hF4r.trans1 hs5 hbbl
  have hH6:H≤(wr.setCell ⟨bb,4,none⟩ (.slice ua xs.length uc)).heap.size:=Nat.le_trans hHr hs5.size
  obtain ⟨W6,hW6⟩:∃W6,Hid (wr.setCell ⟨bb,4,none⟩ (.slice ua xs.length uc)=W6):=⟨_,hidIt rfl⟩
  rw [hW6.out] at hM6 h6 B6 hF6 hH6
  have hvown:=h.own
  have nbb:bb ∉ (Value.slice (some ⟨bq,oq,none⟩) ys.length vcap).ownBlock.toList:=fun hm=>by have:=hlow _ (hvown bb (by simpa using hm));omega
  have nlb:lb ∉ (Value.slice (some ⟨bq,oq,none⟩) ys.length vcap).ownBlock.toList:=fun hm=>h.ne (by simpa using hm)
  have h6d:=h6.blk.drew
  have B6d:=B6.drew
  have hrow6:=owns_drew h6.row
  have hz6:=hF6.size
  have hl65:ys.length≤64:=by omega
  go_wp2_with fail
  rw [hW6.out]
  clear hW6 hs5 c5 f5 l5 B5 hM
  refine wp_region_Z 10 (Fr (Value.slice (some ⟨bq,oq,none⟩) ys.length vcap).ownBlock.toList W6.drew) [(true,0),(true,1),(true,2),(true,3),(true,4),(true,5),(false,6),(false,7),(false,8),(true,9)] (by as_aux_lemma=>kernel_rfl) (by as_aux_lemma=>kernel_rfl) (Fr.refl _ _) ?_
  simp only [inOrder,jD,jE,jF,jG]
  iterate 4 (refine wpG_pure fun K hK=>?_;go_simp;refine hK _ ?_;clear hK K)
  refine wpG_val (.slice (some ⟨bq,oq,none⟩) ys.length vcap) (by first | rfl | go_simp) (fun X hX=>by have cc:=(h6d.fr hX nlb).cell;go_simp) ?_
  simp only [Act.put,jA,jB,jC]
  refine wpG_val (.agg #[.string N,.string Q,.int .i64 1,.int .i64 (y.1.n:Int),.slice ua xs.length uc]) (by first | rfl | go_simp) (fun X hX=>by have cc:=(B6d.fr hX nbb).cell;go_simp) ?_
  simp only [Act.put,jA,jB,jC]
  refine wpG_one fun K hK=>?_
  go_simp
  refine hK _ _ (((Fr.refl [] W6.drew).alloc _).weak) ?_
  clear hK K
  refine wpG_list rfl (fun _ _ h=>h) fun K hK=>?_
  refine wpList_append1 67 60 _ 5 72 Tryz.underlying67 infoBk rfl (by decide) (by decide) rfl _ _ rfl 0 (.slice (some ⟨bq,oq,none⟩) ys.length vcap) ys.length _ rfl (hrow6.alloc _) [.string N,.string Q,.int .i64 1,.int .i64 (y.1.n:Int),.slice ua xs.length uc] rfl (by intro y hy;simp at hy;rcases hy with rfl | rfl | rfl | rfl | rfl <;> rfl) W6.heap.size rfl (by first | exact Blk.new W6.drew [_,_,_,_,_] _ | exact (Blk.new W6 [_,_,_,_,_] _).drew) (by omega) (by simp) ?_
  intro v' w7 hown7 hgrow7 hloc7
  have hF7:Fr (Value.slice (some ⟨bq,oq,none⟩) ys.length vcap).ownBlock.toList W6.drew w7:=((Fr.refl [] W6.drew).alloc _).weak.trans' (Fr.of_grown hgrow7)
  refine hK _ (fun _ h=>h) _ _ hF7 ?_
  clear hK K
  have h57:=h6d.fr hF7 nlb
  have c5:=h57.cell
  have f5:=h57.frozen
  have l5:=h57.lt
  have hl7:∀q,v'.ownBlock=some q→(Value.slice (some ⟨bq,oq,none⟩) ys.length vcap).ownBlock=some q∨W6.heap.size≤q:=fun q hq=>by
   rcases hloc7 with h | h
   ·left;rw [←h,hq]
   ·right;rw [h] at hq;injection hq with hq;simp at hq;omega
  have hl7b:=hown7.lt
  obtain ⟨a7,c7,rfl,_⟩:=Sl.of_owns hown7
  refine wpG_one fun K hK=>?_
  go_simp
  refine hK _ _ hF7 ?_
  clear hK K
  iterate 1 (refine wpG_pure fun K hK=>?_;go_simp;refine hK _ ?_;clear hK K)
  refine wpG_last fun K hK=>?_
  go_simp
  refine hK _ _ ?_
  clear hK K
  have hs8:Fr [lb] w7 (w7.setCell ⟨lb,0,none⟩ (.slice a7 (ys.length+1) c7)):=(Fr.refl _ w7).setCell (.inl (by simp)) _
  have hB8:=h57.setCell 0 (.slice a7 (ys.length+1) c7)
  have hbc:([.string N,.string Q,.int .i64 1,.int .i64 (y.1.n:Int),.slice ua xs.length uc]:List Value)=bvC (y.1,.slice ua xs.length uc,xs):=by
   show _=[strL y.1.nm,strL y.1.pa,_,_,_]
   rw [hN.out,hQ.out]
  have hne7:(Value.slice a7 (ys.length+1) c7).ownBlock≠some lb:=fun e=>by
   rcases hl7 lb e with h9 | h9
   ·exact h.ne h9
   ·omega
  have how8:=owns_fr hown7 hs8 (fun q hq hm=>hne7 (by rw [←List.mem_singleton.1 hm];exact hq))
  have hFX:Fr (lb :: (Value.slice (some ⟨bq,oq,none⟩) ys.length vcap).ownBlock.toList) W6 (w7.setCell ⟨lb,0,none⟩ (.slice a7 (ys.length+1) c7)):=(((Fr.refl [] W6).drew.weak).trans' (hF7.mono (fun q hq _=>List.mem_cons_of_mem _ hq))).trans' (hs8.mono (fun q hq _=>by rw [List.mem_singleton.1 hq];exact List.mem_cons_self))
  have hPX:PcsW W6 (fun q=>H≤q∧q<W6.heap.size) (.slice ua xs.length uc) xs:=hM6.pcs fun q h1 h2=>⟨h1,h2⟩
  have hnew:∀q,H≤q∧q<W6.heap.size→q ∉ lb :: (Value.slice (some ⟨bq,oq,none⟩) ys.length vcap).ownBlock.toList:=fun q h1 hm=>by
   rcases List.mem_cons.1 hm with h9 | h9
   ·omega
   ·have:=hlow _ (hvown q (by simpa using h9));omega
  have hPY:=hPX.fr hFX fun q hq hh=>hnew q hh hq
  have hzX:=hFX.size
  have hLst:LstW (w7.setCell ⟨lb,0,none⟩ (.slice a7 (ys.length+1) c7)) lb (fun q=>o q∨(H≤q∧q<(w7.setCell ⟨lb,0,none⟩ (.slice a7 (ys.length+1) c7)).heap.size)) (.slice a7 (ys.length+1) c7) (ys++[(y.1,.slice ua xs.length uc,xs)]):=by
   refine ⟨hB8,?_,fun q hq=>?_,fun z hz=>?_,.inl h.ob,hne7,fun q hq=>?_⟩
   ·rw [List.length_append,List.flatMap_append,List.flatMap_cons,List.flatMap_nil,List.append_nil,←hbc]
    exact how8
   ·rcases hl7 q hq with h9 | h9
    ·exact .inl (hvown q h9)
    ·exact .inr ⟨by omega,(how8.lt q hq).2⟩
   ·rcases List.mem_append.1 hz with hz | hz
    ·refine ((h6.one z hz).fr hFX fun q hq hh=>?_).mono fun q hh=>⟨.inl hh.1,hh.2.1,fun e=>?_⟩
     ·rcases List.mem_cons.1 hq with h9 | h9
      ·exact hh.2.1 h9
      ·exact hh.2.2 (by simpa using h9)
     ·rcases hl7 q e with h9 | h9
      ·exact hh.2.2 h9
      ·have:=hlow q hh.1;omega
    ·rw [List.mem_singleton.1 hz]
     refine ⟨hPY.mono fun q hq=>⟨.inr ⟨hq.1,by omega⟩,by omega,fun e=>?_⟩,?_⟩
     ·rcases hl7 q e with h9 | h9
      ·have:=hlow _ (hvown q h9);omega
      ·omega
     ·show y.1.ps=unP xs
      rw [hyps.out,hxs.out,List.take_of_length_le (by omega)]
   ·rcases hq with hq | hq
    ·have:=hlow q hq;omega
    ·exact hq.2
  have hSt:StepO w o (w7.setCell ⟨lb,0,none⟩ (.slice a7 (ys.length+1) c7)) (fun q=>o q∨(H≤q∧q<(w7.setCell ⟨lb,0,none⟩ (.slice a7 (ys.length+1) c7)).heap.size)):=by
   refine ⟨⟨lb :: (Value.slice (some ⟨bq,oq,none⟩) ys.length vcap).ownBlock.toList,hF6.weak.trans' hFX,fun q hq _=>?_⟩,fun q hq=>?_⟩
   ·rcases List.mem_cons.1 hq with h9 | h9
    ·rw [h9];exact h.ob
    ·exact hvown q (by simpa using h9)
   ·rcases hq with hq | hq
    ·exact .inl hq
    ·exact .inr (by omega)
  have hfin:=hidIt (And.intro hLst hSt)
  clear hLst hSt hPY hPX hFX how8 hB8 hs8 hown7 h57 c5 f5 l5 hloc7 hF7 hgrow7 hrow6 h6d B6d h6 B6 hM6 hF6 h4 h
  go_wp2
  go_ret
  exact ⟨rfl,_,_,_,hfin.out.1,rfl,hfin.out.2⟩
 obtain ⟨b,off,rfl,hbb2,d0,d1⟩:=SlF.pcAt (SlF.fr0 hyp hF4r) hlt
 have hxm:=getD_memB hlt zPv
 obtain ⟨g1,g2,g3⟩:=hyb _ hxm
 obtain ⟨ba,bc,hbv,hbl,_⟩:=SlF.open g1
 have htk:Hid (unP (y.2.2.take (k+1))=unP (y.2.2.take k)++[((y.2.2.getD k zPv).1,(y.2.2.getD k zPv).2.1)]):=hidIt (by
  rw [List.take_succ_eq_append_getElem hlt,List.getD_eq_getElem?_getD,List.getElem?_eq_getElem hlt]
  unfold unP
  rw [List.map_append]
  rfl)
 have h32:(y.2.2.getD k zPv).2.1.length≤1048576:=by
  have:=(hg.ins _ (by rw [hyps.out];exact unP_at hlt)).2
  simp only at this
  omega
 rw [hbv] at d1 g1
 generalize hCk:(y.2.2.getD k zPv).1=C at *
 generalize hBk:(y.2.2.getD k zPv).2.1=bs at *
 clear hCk hBk hbv g2 g3 hxm
 have hfa:=(Fr.refl [] wr).alloc (.cells #[.int .i64 (C:Int),.slice ba bs.length bc] 71)
 have P3:=Blk.new wr [.int .i64 (C:Int),.slice ba bs.length bc] 71
 have P3d:=P3.drew
 have hFdr:=hfa.drew
 have hMd:=hM.fr0 hFdr
 have g1d:=SlF.fr0 (SlF.fr0 g1 hF4r) hFdr
 have hpw:wr.heap.size ∉ u6.ownBlock.toList:=fun hm=>by have:=(hM.row.lt wr.heap.size (by simpa using hm)).2;omega
 have hzr:wr.heap.size<(wr.alloc (.cells #[.int .i64 (C:Int),.slice ba bs.length bc] 71)).drew.heap.size:=by simp
 have kC:=CloneY_calls _ bs _ g1d h32
 go_wp2_with fail
 have hzA:(wr.alloc (.cells #[.int .i64 (C:Int),.slice ba bs.length bc] 71)).heap.size=wr.heap.size+1:=World.size_alloc _ _
 generalize wr.alloc (.cells #[.int .i64 (C:Int),.slice ba bs.length bc] 71)=A at *
 refine wp_region_G (fun X=>Fr u6.ownBlock.toList A.drew X) [(true,0),(true,1),(true,2),(true,3),(true,4),(false,5),(true,6),(false,7),(false,8),(true,9)] (by as_aux_lemma=>kernel_rfl) (by as_aux_lemma=>kernel_rfl) (Fr.refl _ _) ?_
 simp only [inOrder,jD,jE,jF,jG]
 iterate 2 (refine wpG_pure fun K hK=>?_;go_simp;refine hK _ ?_;clear hK K)
 refine wpG_val (.int .i64 (C:Int)) (by first | rfl | go_simp) (fun X hX=>by have cc:=(P3d.fr hX hpw).cell;go_simp) ?_
 simp only [Act.put,jA,jB,jC]
 iterate 1 (refine wpG_pure fun K hK=>?_;go_simp;refine hK _ ?_;clear hK K)
 refine wpG_val (.slice ba bs.length bc) (by first | rfl | go_simp) (fun X hX=>by have cc:=(P3d.fr hX hpw).cell;go_simp) ?_
 simp only [Act.put,jA,jB,jC]
 refine wpG_one fun K hK=>?_
 go_simp
 refine (kC).mono ?_
 rintro e w5 ⟨vc,rfl,hvc,hf5⟩
 refine hK _ _ (hf5.weak) ?_
 clear hK K
 obtain ⟨ca,cc,rfl,_⟩:=Sl.of_owns hvc
 iterate 1 (refine wpG_pure fun K hK=>?_;go_simp;refine hK _ ?_;clear hK K)
 have hM5:=hMd.fr0 hf5
 have hz5:=hf5.size
 refine wpG_one fun K hK=>?_
 go_simp
 refine hK _ _ ((hf5.alloc _).weak) ?_
 clear hK K
 refine wpG_list rfl (fun _ _ h=>h) fun K hK=>?_
 refine wpList_append1 58 71 _ 2 32 Tryz.underlying58 infoPc rfl (by decide) (by decide) rfl _ _ rfl H u6 xs.length _ rfl (hM5.row.alloc _) [.int .i64 (C:Int),.slice ca bs.length cc] rfl (by intro y hy;simp at hy;rcases hy with rfl | rfl <;> rfl) w5.heap.size rfl (Blk.new' rfl [_,_] _) (by omega) (by simp at hz5 ⊢;omega) ?_
 intro v' w7 hown7 hgrow7 hloc7
 have hF7:Fr u6.ownBlock.toList w5 w7:=((Fr.refl [] w5).alloc _).weak.trans' (Fr.of_grown hgrow7)
 have hFA:Fr u6.ownBlock.toList A.drew w7:=(hf5.weak).trans' hF7
 refine hK _ (fun _ h=>h) _ _ hFA ?_
 clear hK K
 iterate 1 (refine wpG_pure fun K hK=>?_;go_simp;refine hK _ ?_;clear hK K)
 refine wpG_end ?_
 have hvb:=own_base hvc
 have hvl2:=hvc.lt
 have hul:=hM.row.lt
 have hl7:∀q,v'.ownBlock=some q→u6.ownBlock=some q∨w5.heap.size≤q:=fun q hq=>by
  rcases hloc7 with h | h
  ·left;rw [←h,hq]
  ·right;rw [h] at hq;injection hq with hq;simp at hq;omega
 have hM7:=hM5.more (x:=(C,bs,.slice ca bs.length cc)) hown7 hF7 hl7 (SlF.fr (SlF.of_owns hvc) hF7 fun q hq hm=>by
  have h1:=hvb q hq
  have h2:=(hul q (by simpa using hm)).2
  simp at h1
  omega) (okV.of_owns hvc) (fun q hq=>by
  have h1:=hvb q hq
  have h2:=(hvl2 q hq).2
  have h3:=hF7.size
  simp at h1
  refine ⟨by omega,by omega,fun e=>?_⟩
  rcases hl7 q e with h9 | h9
  ·have:=(hul q h9).2;omega
  ·omega)
 have hFw7:Fr [] w4 w7:=hF.trans ((hFdr.weak).trans' hFA) (fun q hq hl=>by
  have:=own_base hM.row q (by simpa using hq)
  have:=hH.out
  omega)
 have hH7:H≤w7.heap.size:=by have:=hF7.size;simp at hz5;omega
 have hxs7:Hid (unP (xs++[(C,bs,.slice ca bs.length cc)])=unP (y.2.2.take (k+1))):=hidIt (by
  rw [htk.out,←hxs.out]
  unfold unP
  rw [List.map_append]
  rfl)
 have hfin:=hidIt (And.intro hM7 hFw7)
 clear hM7 hFw7 hFA hF7 hown7 hgrow7 hloc7 hl7 hM5 hvc hf5 kC d0 d1 P3 P3d hMd hM hF4r hFdr hfa g1 g1d
 go_wp2
 go_roundw
 case rel=>exact ⟨k+1,_,by omega,by go_num,hfin.out.1,hxs7,hfin.out.2,hH7⟩
 case measure=>simp [intOf];omega
end
end Go.Proofs.YtffnihooekbcnaaGreat
