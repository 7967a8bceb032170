/-
  Package sim: dirty.
-/
import Derived.Test.YtffnihooekbcnaaGreatG27
import Derived.Test.YtffnihooekbcnaaGreatG33
set_option maxRecDepth 100000
set_option maxHeartbeats 6400000
namespace Go.Proofs.YtffnihooekbcnaaGreat
open Go.RowKit Go.Maps
attribute [local go_sem] mapAt_alloc mapAt_setCell mapAt_drew mapAt_drewN cells_str store_str eql_str neq_str guard_str len_str
section
variable {w w':World} {S:SimS} {p:List By}
def drtPost (w:World) (c:Cel) (e:Ending) (w':World):Prop :=
 ∃tb bb,e=.returned (.tuple #[.pointer (some ⟨tb,0,none⟩),.int .i64 0])∧w.heap.size≤tb∧w.heap.size≤bb∧BitW w' tb bb c.x.S c.x.g c.x.l∧Fr [] w w'
theorem sDirty_yes (h:SimW w S) (c:Cel) (kd a g':Int) (va:Option Addr) (vn vc:Nat) (nm ot:By) (ka:Option Addr) (kn kc:Nat) (hot:ot.length≤maxLen) (hc:findC S.E ot=some c) (hot0:ot≠[]) (huse:c.x.use=true) (hlast:lastN S.ys≠[]) :
 Calls Tryz.prog 53 #[.pointer (some ⟨S.wb,0,none⟩),.agg (stepC kd a g' (.slice va vn vc) nm ot (.slice ka kn kc)).toArray] w (drtPost w c):=by
 obtain ⟨w1,hw1⟩:∃w1,Hid (w.alloc (.cells (stepC kd a g' (.slice va vn vc) nm ot (.slice ka kn kc)).toArray 34)=w1):=⟨_,hidIt rfl⟩
 have hF1:Fr [] w w1:=by rw [←hw1.out];exact (Fr.refl [] w).alloc _
 have B1:Blk w1 w.heap.size (stepC kd a g' (.slice va vn vc) nm ot (.slice ka kn kc)) 34:=by rw [←hw1.out];exact Blk.new w (stepC kd a g' (.slice va vn vc) nm ot (.slice ka kn kc)) 34
 have h1:=h.fr0 hF1
 have kG:=fun X (hX:Fr [] w1 X)=>Get_some S.db S.dm S.E ot c X (h1.fr0 hX).dir hot hc
 have kL:=fun X (hX:Fr [] w1 X)=>lsLast_calls (h1.fr0 hX).lst
 have hSB:=fun X (hX:Fr [] w1 X)=>(h1.fr0 hX).cell
 unfold simC at hSB
 have hdr:=(Fr.refl [] w1).drew
 have hd1:decide (ot=[])=false:=decide_eq_false hot0
 have hd2:decide (lastN S.ys=[])=false:=decide_eq_false hlast
 have he:Value.string ⟨#[]⟩=strL []:=rfl
 unfold entV at kG
 go_enter Tryz.func53,Tryz.ntmps53
 rw [he]
 go_wp2_with fail
 rw [hw1.out]
 clear hw1
 refine wp_region_B2 (Fr [] w1.drew) [0,1,2,3,4,5] 6 10 [(true,7),(true,8),(true,9),(false,10),(false,11),(true,12)] [(false,6),(true,7),(true,8),(true,9),(false,11),(true,12)] (by as_aux_lemma=>kernel_rfl) (by as_aux_lemma=>kernel_rfl) (Fr.refl _ _) ?_
 simp only [inOrder,jD,jE,jF,jG]
 iterate 3 (refine wpB2_pure fun K hK=>?_;go_simp;refine hK _ ?_;clear hK K)
 refine wpB2_val (.pointer (some ⟨S.db,0,none⟩)) (by first | rfl | go_simp) (fun X hX=>by have cc:=hSB _ (hdr.trans0 hX);go_simp) ?_
 simp only [Act.put,jA,jB,jC]
 iterate 1 (refine wpB2_pure fun K hK=>?_;go_simp;refine hK _ ?_;clear hK K)
 refine wpB2_val (strL ot) (by first | rfl | go_simp) (fun X hX=>by have cc:=(B1.fr0 (hdr.trans0 hX)).cell;go_simp) ?_
 simp only [Act.put,jA,jB,jC]
 refine wpB2_end ?_ ?_
 ·skip
  refine wpG_one fun K hK=>?_
  go_simp
  refine (kG _ hdr).mono ?_
  rintro e w2 ⟨tb,bb,rfl,hz1,hz2,hB,hf2⟩
  refine hK _ _ (hf2) ?_
  clear hK K
  iterate 3 (refine wpG_pure fun K hK=>?_;go_simp;refine hK _ ?_;clear hK K)
  refine wpG_one fun K hK=>?_
  go_simp
  refine hK _ _ (hf2.alloc _) ?_
  clear hK K
  refine wpG_one fun K hK=>?_
  go_simp
  refine hK _ _ (hf2.alloc _) ?_
  clear hK K
  iterate 1 (refine wpG_pure fun K hK=>?_;go_simp;refine hK _ ?_;clear hK K)
  refine wpG_end ?_
  have hdz:w1.drew.heap.size=w1.heap.size:=rfl
  have hF5:Fr [] w1 (w2.alloc (.cells #[strL c.x.name,.bool c.x.on,.bool true,.pointer (some ⟨tb,0,none⟩)] 144)):=(hdr.trans0 hf2).alloc _
  have d1:=(B1.fr0 hF5).cell
  have d2:=hSB _ hF5
  have d3:=(Blk.new w2 [strL c.x.name,.bool c.x.on,.bool true,.pointer (some ⟨tb,0,none⟩)] 144).cell
  have kLL:=kL _ hF5
  have hz5:=hF5.size
  have hzw:=hF1.size
  have hfin:=hidIt (show BitW (w2.alloc (.cells #[strL c.x.name,.bool c.x.on,.bool true,.pointer (some ⟨tb,0,none⟩)] 144)) tb bb c.x.S c.x.g c.x.l∧Fr [] w (w2.alloc (.cells #[strL c.x.name,.bool c.x.on,.bool true,.pointer (some ⟨tb,0,none⟩)] 144)) from ⟨hB.fr0 ((Fr.refl [] w2).alloc _),hF1.trans0 hF5⟩)
  have hq:binOp .eql 9 (strL ot) (strL [])=pure (.bool false):=by rw [eql_str,hd1]
  have hq2:binOp .eql 9 (strL (lastN S.ys)) (strL [])=pure (.bool false):=by rw [eql_str,hd2]
  clear kG kL hSB B1 h h1 hB
  go_wp2_with fail
  refine kLL.mono ?_
  rintro e w6 ⟨rfl,hf6⟩
  have d3':=((Blk.new w2 [strL c.x.name,.bool c.x.on,.bool true,.pointer (some ⟨tb,0,none⟩)] 144).fr0 hf6).cell
  have hfin2:=hidIt (show BitW w6 tb bb c.x.S c.x.g c.x.l∧Fr [] w w6 from ⟨hfin.out.1.fr0 hf6,hfin.out.2.trans0 hf6⟩)
  clear kLL
  go_wp2
  go_ret2
  exact ⟨tb,bb,rfl,by omega,by omega,hfin2.out⟩
 ·have hfa:=(Fr.refl [] w1.drew).alloc (.cells #[strL [],.bool false,.bool false,.pointer none] 144)
  have B3:Blk (w1.drew.alloc (.cells #[strL [],.bool false,.bool false,.pointer none] 144)) w1.heap.size [strL [],.bool false,.bool false,.pointer none] 144:=Blk.new w1.drew [strL [],.bool false,.bool false,.pointer none] 144
  refine wpG_one fun K hK=>?_
  go_simp
  first | rw [he] | skip
  refine hK _ _ ((Fr.refl _ _).alloc _) ?_
  clear hK K
  refine wpG_one fun K hK=>?_
  go_simp
  refine (kG _ (hdr.trans0 hfa)).mono ?_
  rintro e w2 ⟨tb,bb,rfl,hz1,hz2,hB,hf2⟩
  have B4:=B3.fr0 hf2
  have c4:=B4.cell
  have f4:=B4.frozen
  have l4:=B4.lt
  refine hK _ _ (hfa.trans0 hf2) ?_
  clear hK K
  iterate 3 (refine wpG_pure fun K hK=>?_;go_simp;refine hK _ ?_;clear hK K)
  refine wpG_one fun K hK=>?_
  go_simp
  have hset:Fr [w1.heap.size] w2 ((((w2.setCell ⟨w1.heap.size,0,none⟩ (strL c.x.name)).setCell ⟨w1.heap.size,1,none⟩ (.bool c.x.on)).setCell ⟨w1.heap.size,2,none⟩ (.bool true)).setCell ⟨w1.heap.size,3,none⟩ (.pointer (some ⟨tb,0,none⟩))):=((((Fr.refl [w1.heap.size] w2).setCell (p:=⟨w1.heap.size,0,none⟩) (.inl (by simp)) _).setCell (p:=⟨w1.heap.size,1,none⟩) (.inl (by simp)) _).setCell (p:=⟨w1.heap.size,2,none⟩) (.inl (by simp)) _).setCell (p:=⟨w1.heap.size,3,none⟩) (.inl (by simp)) _
  have hF9:=(hfa.trans0 hf2).trans1 hset (Nat.le_refl w1.heap.size)
  have B9:Blk ((((w2.setCell ⟨w1.heap.size,0,none⟩ (strL c.x.name)).setCell ⟨w1.heap.size,1,none⟩ (.bool c.x.on)).setCell ⟨w1.heap.size,2,none⟩ (.bool true)).setCell ⟨w1.heap.size,3,none⟩ (.pointer (some ⟨tb,0,none⟩))) w1.heap.size [strL c.x.name,.bool c.x.on,.bool true,.pointer (some ⟨tb,0,none⟩)] 144:=(((B4.setCell 0 (strL c.x.name)).setCell 1 (.bool c.x.on)).setCell 2 (.bool true)).setCell 3 (.pointer (some ⟨tb,0,none⟩))
  refine hK _ _ hF9 ?_
  clear hK K
  iterate 1 (refine wpG_pure fun K hK=>?_;go_simp;refine hK _ ?_;clear hK K)
  refine wpG_end ?_
  have hdz:(w1.drew.alloc (.cells #[strL [],.bool false,.bool false,.pointer none] 144)).heap.size=w1.heap.size+1:=World.size_alloc _ _
  clear c4 f4 l4 B3
  have hF5:Fr [] w1 ((((w2.setCell ⟨w1.heap.size,0,none⟩ (strL c.x.name)).setCell ⟨w1.heap.size,1,none⟩ (.bool c.x.on)).setCell ⟨w1.heap.size,2,none⟩ (.bool true)).setCell ⟨w1.heap.size,3,none⟩ (.pointer (some ⟨tb,0,none⟩))):=hdr.trans0 hF9
  have d1:=(B1.fr0 hF5).cell
  have d2:=hSB _ hF5
  have d3:=B9.cell
  have kLL:=kL _ hF5
  have hz5:=hF5.size
  have hzw:=hF1.size
  have hfin:=hidIt (show BitW ((((w2.setCell ⟨w1.heap.size,0,none⟩ (strL c.x.name)).setCell ⟨w1.heap.size,1,none⟩ (.bool c.x.on)).setCell ⟨w1.heap.size,2,none⟩ (.bool true)).setCell ⟨w1.heap.size,3,none⟩ (.pointer (some ⟨tb,0,none⟩))) tb bb c.x.S c.x.g c.x.l∧Fr [] w ((((w2.setCell ⟨w1.heap.size,0,none⟩ (strL c.x.name)).setCell ⟨w1.heap.size,1,none⟩ (.bool c.x.on)).setCell ⟨w1.heap.size,2,none⟩ (.bool true)).setCell ⟨w1.heap.size,3,none⟩ (.pointer (some ⟨tb,0,none⟩))) from ⟨hB.fr hset (by simp;omega) (by simp;omega),hF1.trans0 hF5⟩)
  have hq:binOp .eql 9 (strL ot) (strL [])=pure (.bool false):=by rw [eql_str,hd1]
  have hq2:binOp .eql 9 (strL (lastN S.ys)) (strL [])=pure (.bool false):=by rw [eql_str,hd2]
  clear kG kL hSB B1 h h1 hB
  go_wp2_with fail
  refine kLL.mono ?_
  rintro e w6 ⟨rfl,hf6⟩
  have d3':=(B9.fr0 hf6).cell
  have hfin2:=hidIt (show BitW w6 tb bb c.x.S c.x.g c.x.l∧Fr [] w w6 from ⟨hfin.out.1.fr0 hf6,hfin.out.2.trans0 hf6⟩)
  clear kLL
  go_wp2
  go_ret2
  exact ⟨tb,bb,rfl,by omega,by omega,hfin2.out⟩
theorem sDirty_none (h:SimW w S) (kd a g':Int) (va:Option Addr) (vn vc:Nat) (nm:By) (ka:Option Addr) (kn kc:Nat) (hc:findC S.E []=none) :
 Calls Tryz.prog 53 #[.pointer (some ⟨S.wb,0,none⟩),.agg (stepC kd a g' (.slice va vn vc) nm [] (.slice ka kn kc)).toArray] w fun e w'=>e=.returned (.tuple #[.pointer none,.int .i64 0])∧Fr [] w w':=by
 obtain ⟨w1,hw1⟩:∃w1,Hid (w.alloc (.cells (stepC kd a g' (.slice va vn vc) nm [] (.slice ka kn kc)).toArray 34)=w1):=⟨_,hidIt rfl⟩
 have hF1:Fr [] w w1:=by rw [←hw1.out];exact (Fr.refl [] w).alloc _
 have B1:Blk w1 w.heap.size (stepC kd a g' (.slice va vn vc) nm [] (.slice ka kn kc)) 34:=by rw [←hw1.out];exact Blk.new w (stepC kd a g' (.slice va vn vc) nm [] (.slice ka kn kc)) 34
 have h1:=h.fr0 hF1
 have kG:=fun X (hX:Fr [] w1 X)=>Get_none S.db S.dm S.E [] X (h1.fr0 hX).dir (by decide) hc
 have hSB:=fun X (hX:Fr [] w1 X)=>(h1.fr0 hX).cell
 unfold simC at hSB
 have hdr:=(Fr.refl [] w1).drew
 have he:Value.string ⟨#[]⟩=strL []:=rfl
 unfold noEnt at kG
 go_enter Tryz.func53,Tryz.ntmps53
 rw [he]
 go_wp2_with fail
 rw [hw1.out]
 clear hw1
 refine wp_region_B2 (Fr [] w1.drew) [0,1,2,3,4,5] 6 10 [(true,7),(true,8),(true,9),(false,10),(false,11),(true,12)] [(false,6),(true,7),(true,8),(true,9),(false,11),(true,12)] (by as_aux_lemma=>kernel_rfl) (by as_aux_lemma=>kernel_rfl) (Fr.refl _ _) ?_
 simp only [inOrder,jD,jE,jF,jG]
 iterate 3 (refine wpB2_pure fun K hK=>?_;go_simp;refine hK _ ?_;clear hK K)
 refine wpB2_val (.pointer (some ⟨S.db,0,none⟩)) (by first | rfl | go_simp) (fun X hX=>by have cc:=hSB _ (hdr.trans0 hX);go_simp) ?_
 simp only [Act.put,jA,jB,jC]
 iterate 1 (refine wpB2_pure fun K hK=>?_;go_simp;refine hK _ ?_;clear hK K)
 refine wpB2_val (strL []) (by first | rfl | go_simp) (fun X hX=>by have cc:=(B1.fr0 (hdr.trans0 hX)).cell;go_simp) ?_
 simp only [Act.put,jA,jB,jC]
 refine wpB2_end ?_ ?_
 ·skip
  refine wpG_one fun K hK=>?_
  go_simp
  refine (kG _ hdr).mono ?_
  rintro e w2 ⟨rfl,hf2⟩
  refine hK _ _ (hf2) ?_
  clear hK K
  iterate 3 (refine wpG_pure fun K hK=>?_;go_simp;refine hK _ ?_;clear hK K)
  refine wpG_one fun K hK=>?_
  go_simp
  refine hK _ _ (hf2.alloc _) ?_
  clear hK K
  refine wpG_one fun K hK=>?_
  go_simp
  refine hK _ _ (hf2.alloc _) ?_
  clear hK K
  iterate 1 (refine wpG_pure fun K hK=>?_;go_simp;refine hK _ ?_;clear hK K)
  refine wpG_end ?_
  have hdz:w1.drew.heap.size=w1.heap.size:=rfl
  have hF5:Fr [] w1 (w2.alloc (.cells #[strL [],.bool false,.bool false,.pointer none] 144)):=(hdr.trans0 hf2).alloc _
  have d1:=(B1.fr0 hF5).cell
  have d2:=hSB _ hF5
  have hfin:=hidIt (hF1.trans0 hF5)
  have hq:binOp .eql 9 (strL []) (strL [])=pure (.bool true):=by rw [eql_str];rfl
  clear kG hSB B1 h h1
  go_wp2
  go_ret2
  exact ⟨rfl,hfin.out⟩
 ·have hfa:=(Fr.refl [] w1.drew).alloc (.cells #[strL [],.bool false,.bool false,.pointer none] 144)
  have B3:Blk (w1.drew.alloc (.cells #[strL [],.bool false,.bool false,.pointer none] 144)) w1.heap.size [strL [],.bool false,.bool false,.pointer none] 144:=Blk.new w1.drew [strL [],.bool false,.bool false,.pointer none] 144
  refine wpG_one fun K hK=>?_
  go_simp
  first | rw [he] | skip
  refine hK _ _ ((Fr.refl _ _).alloc _) ?_
  clear hK K
  refine wpG_one fun K hK=>?_
  go_simp
  refine (kG _ (hdr.trans0 hfa)).mono ?_
  rintro e w2 ⟨rfl,hf2⟩
  have B4:=B3.fr0 hf2
  have c4:=B4.cell
  have f4:=B4.frozen
  have l4:=B4.lt
  refine hK _ _ (hfa.trans0 hf2) ?_
  clear hK K
  iterate 3 (refine wpG_pure fun K hK=>?_;go_simp;refine hK _ ?_;clear hK K)
  refine wpG_one fun K hK=>?_
  go_simp
  have hset:Fr [w1.heap.size] w2 ((((w2.setCell ⟨w1.heap.size,0,none⟩ (strL [])).setCell ⟨w1.heap.size,1,none⟩ (.bool false)).setCell ⟨w1.heap.size,2,none⟩ (.bool false)).setCell ⟨w1.heap.size,3,none⟩ (.pointer none)):=((((Fr.refl [w1.heap.size] w2).setCell (p:=⟨w1.heap.size,0,none⟩) (.inl (by simp)) _).setCell (p:=⟨w1.heap.size,1,none⟩) (.inl (by simp)) _).setCell (p:=⟨w1.heap.size,2,none⟩) (.inl (by simp)) _).setCell (p:=⟨w1.heap.size,3,none⟩) (.inl (by simp)) _
  have hF9:=(hfa.trans0 hf2).trans1 hset (Nat.le_refl w1.heap.size)
  have B9:Blk ((((w2.setCell ⟨w1.heap.size,0,none⟩ (strL [])).setCell ⟨w1.heap.size,1,none⟩ (.bool false)).setCell ⟨w1.heap.size,2,none⟩ (.bool false)).setCell ⟨w1.heap.size,3,none⟩ (.pointer none)) w1.heap.size [strL [],.bool false,.bool false,.pointer none] 144:=(((B4.setCell 0 (strL [])).setCell 1 (.bool false)).setCell 2 (.bool false)).setCell 3 (.pointer none)
  refine hK _ _ hF9 ?_
  clear hK K
  iterate 1 (refine wpG_pure fun K hK=>?_;go_simp;refine hK _ ?_;clear hK K)
  refine wpG_end ?_
  have hdz:(w1.drew.alloc (.cells #[strL [],.bool false,.bool false,.pointer none] 144)).heap.size=w1.heap.size+1:=World.size_alloc _ _
  clear c4 f4 l4 B3
  have hF5:Fr [] w1 ((((w2.setCell ⟨w1.heap.size,0,none⟩ (strL [])).setCell ⟨w1.heap.size,1,none⟩ (.bool false)).setCell ⟨w1.heap.size,2,none⟩ (.bool false)).setCell ⟨w1.heap.size,3,none⟩ (.pointer none)):=hdr.trans0 hF9
  have d1:=(B1.fr0 hF5).cell
  have d2:=hSB _ hF5
  have hfin:=hidIt (hF1.trans0 hF5)
  have hq:binOp .eql 9 (strL []) (strL [])=pure (.bool true):=by rw [eql_str];rfl
  clear kG hSB B1 h h1
  go_wp2
  go_ret2
  exact ⟨rfl,hfin.out⟩
end
def finB (S:SimS) (ps:List (Nat × By)):Bk:=⟨S.nm,S.pa,S.n,ps⟩
structure FinOk (S:SimS) (ps:List (Nat × By)):Prop where
 zb:S.zb=1
 zn:S.zn=(S.n:Int)
 good:GoodL (S.ys.map (·.1)++[finB S ps])
 few:S.ys.length≤60
 len:(lsB (S.ys.map (·.1)++[finB S ps])).length≤4080
theorem GoodL.old {l:List Bk} {b:Bk} (h:GoodL (l++[b])):GoodL l:=by
 refine ⟨fun x hx=>h.one x (List.mem_append_left _ hx),(List.pairwise_append.1 h.apart).1,fun i x hi hp=>?_,by have:=h.few;rw [List.length_append] at this;omega⟩
 have hil:i<l.length:=(List.getElem?_eq_some_iff.1 hi).1
 obtain ⟨j,c,hj,hc,he⟩:=h.par i x (by rw [List.getElem?_append_left hil];exact hi) hp
 rw [List.getElem?_append_left (by omega)] at hc
 exact ⟨j,c,hj,hc,he⟩
section
variable {w w':World} {S:SimS} {p:List By} {ps:List (Nat × By)}
theorem finAdd {lb:Nat} {o oy:Nat→Prop} {v:Value} {ys2:List Bkv} (hF:FinOk S ps) (hys:ys2.map (·.1)=S.ys.map (·.1)) (y:Bkv) (hy1:y.1=finB S ps) (h:LstW w lb o v ys2) (hy:BakW w oy y) :
 Calls Tryz.prog 99 #[.pointer (some ⟨lb,0,none⟩),bvV y] w (lsAddPost w lb o ys2 y):=by
 have hlen:ys2.length=S.ys.length:=by have:=congrArg List.length hys;rwa [List.length_map,List.length_map] at this
 have hgb:GoodB y.1:=by rw [hy1];exact hF.good.one _ (List.mem_append_right _ (List.mem_singleton.2 rfl))
 have hap:=List.pairwise_append.1 hF.good.apart
 have hnm:fdI ys2 y.1.nm=none:=fdI_no fun q hq e=>by
  have hm:q.1∈S.ys.map (·.1):=by rw [←hys];exact List.mem_map.2 ⟨q,hq,rfl⟩
  exact hap.2.2 _ hm _ (List.mem_singleton.2 rfl) (by rw [e,hy1])
 by_cases hpa:y.1.pa=[]
 ·exact lsAdd_root y h hy hgb hnm hpa (by have:=hF.few;omega)
 ·cases hk:fdI ys2 y.1.pa with
  | some k0=>exact lsAdd_sub y h hy hgb hnm hpa k0 hk (by have:=hF.few;omega)
  | none =>
    have hno:=fdI_none hk
    obtain ⟨j,c,hj,hc,he⟩:=hF.good.par S.ys.length (finB S ps) (by rw [List.getElem?_append_right (by rw [List.length_map];omega),List.length_map,Nat.sub_self];rfl) (by rw [←hy1];exact hpa)
    rw [List.getElem?_append_left (by rw [List.length_map];exact hj),←hys] at hc
    have hcm:=List.mem_of_getElem? hc
    obtain ⟨q,hq,rfl⟩:=List.mem_map.1 hcm
    exact absurd (by rw [he,hy1]) (hno q hq)
theorem simF_pv (S:SimS) (q:Option Addr × Nat × Nat):simF { S with pv:=q }=simF S:=by
 funext i
 match i with
 | 0=>rfl
 | 1=>rfl
 | 2=>rfl
 | 3=>rfl
 | 4=>rfl
 | 5=>rfl
 | 6=>rfl
 | _+7=>rfl
theorem SimW.off {M:List Nat} (h:SimW w S) (hf:Fr M w w') (hM:∀k∈M,¬allF (simF S) k):SimW w' S :=
 ⟨h.blk.fr hf (fun hm=>hM _ hm ⟨0,rfl⟩),h.ch.fr hf (fun k hk hc=>hM k hk ⟨1,hc⟩),h.dir.fr hf (fun k hk hm=>hM k hm ⟨2,hk⟩),h.fil.fr hf (fun k hk hc=>hM k hk ⟨3,hc⟩),h.lst.fr hf (fun k hk hc=>hM k hk ⟨4,hc⟩),h.job.fr hf (fun k hk hc=>hM k hk ⟨5,hc⟩),h.sin.fr hf (fun k hk hc=>hM k hk ⟨6,hc⟩),fun i k hk=>Nat.lt_of_lt_of_le (h.sep.low i k hk) hf.size,h.sep.off⟩
theorem StepO.away {M:List Nat} {o o1:Nat→Prop} {w2:World} (h:StepO w o w' o1) (hf:Fr M w' w2) (hM:∀k∈M,k<w.heap.size→o k):StepO w o w2 o1:=by
 obtain ⟨M1,hf1,hM1⟩:=h.fr
 refine ⟨⟨M1++M,(hf1.mono fun q hq _=>List.mem_append_left _ hq).trans' (hf.mono fun q hq _=>List.mem_append_right _ hq),fun k hk hl=>?_⟩,h.new⟩
 rcases List.mem_append.1 hk with hk | hk
 ·exact hM1 k hk hl
 ·exact hM k hk hl
theorem SimW.dirF {E':List Cel} (h:SimW w S) (hc:DirW w' S.db S.dm E') (hf:Fr (feet S.E) w w') (he:feet E'=feet S.E):SimW w' { S with E:=E' }∧StepO w (allF (simF S)) w' (allF (simF { S with E:=E' })) :=
 h.dirE hc ⟨⟨_,hf,fun k hk _=>by simp only [homes,List.mem_cons];exact .inr (.inr hk)⟩,fun k hk=>.inl (by simp only [homes,he] at hk ⊢;exact hk)⟩
theorem doS_clr (g S:Nat) (l:List Bool) (f n:Int):(doS g (S,l) (1,f,n)).1.1=S:=by
 unfold doS
 rw [if_neg (by simp),if_pos rfl]
 split <;> rfl
theorem one_oneC (c:Cel) (f:Ent→Ent):oneC [c] c.x.name f=[c.on f]:=by
 simp [oneC,chC]
theorem one_find (c:Cel):findC [c] c.x.name=some c:=by simp [findC]
theorem one_rm (c:Cel):rmC [c] c.x.name=[]:=by simp [rmC]
def FinJ (S:SimS) (ps:List (Nat × By)) (EJ:List Cel→Prop) (S':SimS):Prop :=
 ∃pv lb o v ys F E,S'={ S with pv:=pv,lb:=lb,o:=o,v:=v,ys:=ys,F:=F,E:=E }∧ys.map (·.1)=S.ys.map (·.1)++[finB S ps]∧EJ E
def finPost (w:World) (S:SimS) (ps:List (Nat × By)) (EJ:List Cel→Prop) (e:Ending) (w':World):Prop :=
 e=.returned (.int .i64 0)∧∃S',FinJ S ps EJ S'∧SimW w' S'∧StepO w (allF (simF S)) w' (allF (simF S'))
theorem sFinish_none {jb lm gm:Nat} {o:Nat→Prop} {l:List Bool} {G:Got} (h:SimW w S) (hj:S.j=.push jb lm gm o l G true) (hn:1≤S.n∧S.n≤6) (hgb:∀k x,G k=some x→x.1.length=32) (hF:FinOk S (gotL S.n (unG G))) (hsc:S.sc=none) :
 Calls Tryz.prog 58 #[.pointer (some ⟨S.wb,0,none⟩)] w (finPost w S (gotL S.n (unG G)) fun E=>E=S.E):=by
 have hJ:PshW w jb lm gm S.cb S.n S.s o l G true true:=by
  have:=h.job
  rw [hj] at this
  exact this
 have c0:=h.cell
 unfold simC at c0
 have hpp:S.j.pp=.pointer (some ⟨jb,0,none⟩):=by rw [hj];rfl
 rw [hpp] at c0
 have kR:=phResult_calls hJ (by omega) hgb
 unfold phResPost at kR
 generalize hps:gotL S.n (unG G)=ps at kR hF ⊢
 clear hgb hps hJ
 go_enter Tryz.func58,Tryz.ntmps58
 go_wp2_with fail
 refine kR.mono ?_
 rintro e w1 ⟨v1,xs,rfl,hP,hxs,hf1⟩
 clear kR c0
 obtain ⟨va,vc,rfl,_⟩:=SlF.open hP.sl
 have h1:=h.fr0 hf1
 have c1:=h1.blk.cell
 have cf1:=h1.blk.frozen
 have cl1:=h1.blk.lt
 unfold simC at c1
 obtain ⟨W2,hW2⟩:∃W2,Hid (w1.setCell ⟨S.wb,14,none⟩ (.slice va xs.length vc)=W2):=⟨_,hidIt rfl⟩
 have hs2:Fr [S.wb] w1 W2:=by rw [←hW2.out];exact (Fr.refl [S.wb] w1).setCell (p:=⟨S.wb,14,none⟩) (.inl (by simp)) _
 have hB2:Blk W2 S.wb (simC { S with pv:=(va,xs.length,vc) }) 65:=by rw [←hW2.out];exact h1.blk.setCell 14 _
 have hz1:=hf1.size
 have hwl:=h.blk.lt
 obtain ⟨h2,hst2⟩:=h1.cells (S':={ S with pv:=(va,xs.length,vc) }) hs2 hB2 rfl (fun i _=>by rw [simF_pv]) fun K=>⟨K.ch (by decide),K.dir (by decide),K.fil (by decide),K.lst (by decide),K.job (by decide),K.sin (by decide)⟩
 have hP2:=hP.fr hs2 (fun k hk hh=>by have:=List.mem_singleton.1 hk;omega)
 have hX2:StepO w (allF (simF S)) W2 (allF (simF S)):=⟨⟨[S.wb],hf1.weak.trans' hs2,fun k hk _=>⟨0,List.mem_singleton.1 hk⟩⟩,fun k hk=>.inl hk⟩
 have hold:=hF.good.old
 have kE:=lsEncode_calls h2.lst (fun y hy=>hold.one _ (List.mem_map.2 ⟨y,hy,rfl⟩)) (by have:=hF.few;show S.ys.length≤64;omega)
 unfold lsEncPost at kE
 have c2:=hB2.cell
 unfold simC at c2
 go_wp2_with fail
 rw [hW2.out]
 refine kE.mono ?_
 rintro e w3 ⟨u,rfl,hu,hf3⟩
 clear kE c1 cf1 cl1
 have kD:=lsDecode_calls u _ (SlF.of_owns hu) (okV.of_owns hu) hold
 unfold lsDecPost at kD
 have h3:=h2.fr0 hf3
 go_wp2_with fail
 refine kD.mono ?_
 rintro e w4 ⟨lb2,o2,v2,ys2,rfl,hL4,hys,ho2,hf4⟩
 clear kD c2
 have h4:=h3.fr0 hf4
 have hP4:=(hP2.fr0 hf3).fr0 hf4
 have hz2:=hs2.size
 have hz3:=hf3.size
 have hz4:=hf4.size
 have kA:=finAdd hF hys (finB S ps,.slice va xs.length vc,xs) rfl hL4 (⟨hP4,hxs.symm⟩:BakW w4 _ (finB S ps,.slice va xs.length vc,xs))
 unfold lsAddPost bvV at kA
 have c4:=h4.blk.cell
 unfold simC at c4
 simp only [hF.zb,hF.zn] at c4
 unfold finB at kA
 go_wp2_with fail
 refine kA.mono ?_
 rintro e w5 ⟨rfl,o5,v5,y5,hL5,hy5,hst5⟩
 clear kA c4
 have hlow:∀k,allF (simF S) k→k<w.heap.size:=fun k ⟨i,hi⟩=>h.sep.low i k hi
 have ho5:∀k,o5 k→w.heap.size≤k∧¬allF (simF { S with pv:=(va,xs.length,vc) }) k:=fun k hk=>by
  have h1:w.heap.size≤k:=by
   rcases hst5.new k hk with h9 | h9
   ·have:=ho2 k h9;omega
   ·omega
  exact ⟨h1,fun hh=>by have:=hlow k (by rw [simF_pv] at hh;exact hh);omega⟩
 obtain ⟨M5,hf5,hM5⟩:=hst5.fr
 have h5:=(h4.off hf5 (fun k hk hh=>by
  have hkl:=hlow k (by rw [simF_pv] at hh;exact hh)
  have:=ho2 k (hM5 k hk (by omega))
  omega))
 have hF5:Fr [S.wb] w w5:=(((hf1.weak.trans' hs2).trans0 hf3).trans0 hf4).trans hf5 (fun q hq hl=>by have:=ho2 q (hM5 q hq (by omega));omega)
 have hX5:StepO w (allF (simF { S with pv:=(va,xs.length,vc) })) w5 (allF (simF { S with pv:=(va,xs.length,vc) })):=⟨⟨[S.wb],hF5,fun k hk _=>⟨0,List.mem_singleton.1 hk⟩⟩,fun k hk=>.inl hk⟩
 have hbs:(ys2++[y5]).map (·.1)=S.ys.map (·.1)++[finB S ps]:=by rw [List.map_append,hys,List.map_cons,List.map_nil,hy5];rfl
 have kC:=sCommit_calls h5 hX5 hL5 ho5 (fun y hy=>hF.good.one _ (by rw [←hbs];exact List.mem_map.2 ⟨y,hy,rfl⟩)) (by have:=congrArg List.length hbs;have h6:=hF.few;simp only [List.length_map,List.length_append,List.length_cons,List.length_nil] at this ⊢;omega) (by rw [hbs];exact hF.len)
 unfold comPost at kC
 rw [simF_pv] at kC
 clear h1 h2 h3 h4 hB2 hP hP2 hP4 hX2 hf1 hs2 hst2 hf3 hf4 hL4 hL5 hst5 hF5 hX5 hu h5 hf5 hM5 ho5 ho2
 go_wp2_with fail
 refine kC.mono ?_
 rintro e w6 ⟨rfl,F',h6,hst6⟩
 clear kC
 have c6:=h6.blk.cell
 unfold simC at c6
 simp only [hsc,scP] at c6
 have hfin:=hidIt (fun X (hX:Fr [] w6 X)=>show ∃S',FinJ S ps (fun E=>E=S.E) S'∧SimW X S'∧StepO w (allF (simF S)) X (allF (simF S')) from ⟨_,⟨_,_,_,_,_,_,_,rfl,hbs,rfl⟩,h6.fr0 hX,hst6.trans (StepO.fr0 hX)⟩)
 clear h6 hst6 h hbs hF hold
 go_wp2_with fail
 go_quiet (fail)
 go_wp2
 go_ret
 exact ⟨rfl,hfin.out _ ((Fr.refl [] w6).drewN nq)⟩
end
end Go.Proofs.YtffnihooekbcnaaGreat
