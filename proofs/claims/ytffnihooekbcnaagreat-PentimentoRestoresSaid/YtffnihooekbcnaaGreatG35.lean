/-
  Package sim: finish, with a bitmap.
-/
import Derived.Test.YtffnihooekbcnaaGreatG34
set_option linter.unusedVariables false
set_option maxRecDepth 100000
set_option maxHeartbeats 6400000
namespace Go.Proofs.YtffnihooekbcnaaGreat
open Go.RowKit Go.Maps
attribute [local go_sem] mapAt_alloc mapAt_setCell mapAt_drew mapAt_drewN cells_str store_str eql_str neq_str guard_str len_str
section
variable {w w':World} {S:SimS} {p:List By} {ps:List (Nat × By)}
theorem sFinish_some {jb lm gm:Nat} {o:Nat→Prop} {l:List Bool} {G:Got} (h:SimW w S) (hj:S.j=.push jb lm gm o l G true) (hn:1≤S.n∧S.n≤6) (hgb:∀k x,G k=some x→x.1.length=32) (hF:FinOk S (gotL S.n (unG G))) {x:Nat × Nat × List Bool} (hsc:S.sc=some x) {c:Cel} (hE:S.E=[c]∧c.x.name=S.bm∧pow2 c.x.g=true∧c.x.S=2*S.n∧okName S.bm=true) :
 Calls Tryz.prog 58 #[.pointer (some ⟨S.wb,0,none⟩)] w (finPost w S (gotL S.n (unG G)) fun E=>∃c':Cel,E=[c']∧c'.x=⟨c.x.name,c.x.on,true,2*S.n,c.x.g,mrg (2*S.n) c.x.g (clrE c.x).l 1 x.2.2⟩):=by
 have hJ:PshW w jb lm gm S.cb S.n S.s o l G true true:=by
  have:=h.job
  rw [hj] at this
  exact this
 have c0:=h.cell
 unfold simC at c0
 have hpp:S.j.pp=.pointer (some ⟨jb,0,none⟩):=by rw [hj];rfl
 rw [hpp] at c0
 have kR:=phResult_calls hJ (by omega) hgb
 unfold phResPost at kR
 generalize hps:gotL S.n (unG G)=ps at kR hF ⊢
 clear hgb hps hJ
 go_enter Tryz.func58,Tryz.ntmps58
 go_wp2_with fail
 refine kR.mono ?_
 rintro e w1 ⟨v1,xs,rfl,hP,hxs,hf1⟩
 clear kR c0
 obtain ⟨va,vc,rfl,_⟩:=SlF.open hP.sl
 have h1:=h.fr0 hf1
 have c1:=h1.blk.cell
 have cf1:=h1.blk.frozen
 have cl1:=h1.blk.lt
 unfold simC at c1
 obtain ⟨W2,hW2⟩:∃W2,Hid (w1.setCell ⟨S.wb,14,none⟩ (.slice va xs.length vc)=W2):=⟨_,hidIt rfl⟩
 have hs2:Fr [S.wb] w1 W2:=by rw [←hW2.out];exact (Fr.refl [S.wb] w1).setCell (p:=⟨S.wb,14,none⟩) (.inl (by simp)) _
 have hB2:Blk W2 S.wb (simC { S with pv:=(va,xs.length,vc) }) 65:=by rw [←hW2.out];exact h1.blk.setCell 14 _
 have hz1:=hf1.size
 have hwl:=h.blk.lt
 obtain ⟨h2,hst2⟩:=h1.cells (S':={ S with pv:=(va,xs.length,vc) }) hs2 hB2 rfl (fun i _=>by rw [simF_pv]) fun K=>⟨K.ch (by decide),K.dir (by decide),K.fil (by decide),K.lst (by decide),K.job (by decide),K.sin (by decide)⟩
 have hP2:=hP.fr hs2 (fun k hk hh=>by have:=List.mem_singleton.1 hk;omega)
 have hX2:StepO w (allF (simF S)) W2 (allF (simF S)):=⟨⟨[S.wb],hf1.weak.trans' hs2,fun k hk _=>⟨0,List.mem_singleton.1 hk⟩⟩,fun k hk=>.inl hk⟩
 have hold:=hF.good.old
 have kE:=lsEncode_calls h2.lst (fun y hy=>hold.one _ (List.mem_map.2 ⟨y,hy,rfl⟩)) (by have:=hF.few;show S.ys.length≤64;omega)
 unfold lsEncPost at kE
 have c2:=hB2.cell
 unfold simC at c2
 go_wp2_with fail
 rw [hW2.out]
 refine kE.mono ?_
 rintro e w3 ⟨u,rfl,hu,hf3⟩
 clear kE c1 cf1 cl1
 have kD:=lsDecode_calls u _ (SlF.of_owns hu) (okV.of_owns hu) hold
 unfold lsDecPost at kD
 have h3:=h2.fr0 hf3
 go_wp2_with fail
 refine kD.mono ?_
 rintro e w4 ⟨lb2,o2,v2,ys2,rfl,hL4,hys,ho2,hf4⟩
 clear kD c2
 have h4:=h3.fr0 hf4
 have hP4:=(hP2.fr0 hf3).fr0 hf4
 have hz2:=hs2.size
 have hz3:=hf3.size
 have hz4:=hf4.size
 have kA:=finAdd hF hys (finB S ps,.slice va xs.length vc,xs) rfl hL4 (⟨hP4,hxs.symm⟩:BakW w4 _ (finB S ps,.slice va xs.length vc,xs))
 unfold lsAddPost bvV at kA
 have c4:=h4.blk.cell
 unfold simC at c4
 simp only [hF.zb,hF.zn] at c4
 unfold finB at kA
 go_wp2_with fail
 refine kA.mono ?_
 rintro e w5 ⟨rfl,o5,v5,y5,hL5,hy5,hst5⟩
 clear kA c4
 have hlow:∀k,allF (simF S) k→k<w.heap.size:=fun k ⟨i,hi⟩=>h.sep.low i k hi
 have ho5:∀k,o5 k→w.heap.size≤k∧¬allF (simF { S with pv:=(va,xs.length,vc) }) k:=fun k hk=>by
  have h1:w.heap.size≤k:=by
   rcases hst5.new k hk with h9 | h9
   ·have:=ho2 k h9;omega
   ·omega
  exact ⟨h1,fun hh=>by have:=hlow k (by rw [simF_pv] at hh;exact hh);omega⟩
 obtain ⟨M5,hf5,hM5⟩:=hst5.fr
 have h5:=(h4.off hf5 (fun k hk hh=>by
  have hkl:=hlow k (by rw [simF_pv] at hh;exact hh)
  have:=ho2 k (hM5 k hk (by omega))
  omega))
 have hF5:Fr [S.wb] w w5:=(((hf1.weak.trans' hs2).trans0 hf3).trans0 hf4).trans hf5 (fun q hq hl=>by have:=ho2 q (hM5 q hq (by omega));omega)
 have hX5:StepO w (allF (simF { S with pv:=(va,xs.length,vc) })) w5 (allF (simF { S with pv:=(va,xs.length,vc) })):=⟨⟨[S.wb],hF5,fun k hk _=>⟨0,List.mem_singleton.1 hk⟩⟩,fun k hk=>.inl hk⟩
 have hbs:(ys2++[y5]).map (·.1)=S.ys.map (·.1)++[finB S ps]:=by rw [List.map_append,hys,List.map_cons,List.map_nil,hy5];rfl
 have kC:=sCommit_calls h5 hX5 hL5 ho5 (fun y hy=>hF.good.one _ (by rw [←hbs];exact List.mem_map.2 ⟨y,hy,rfl⟩)) (by have:=congrArg List.length hbs;have h6:=hF.few;simp only [List.length_map,List.length_append,List.length_cons,List.length_nil] at this ⊢;omega) (by rw [hbs];exact hF.len)
 unfold comPost at kC
 rw [simF_pv] at kC
 clear h1 h2 h3 h4 hB2 hP hP2 hP4 hX2 hf1 hs2 hst2 hf3 hf4 hL4 hL5 hst5 hF5 hX5 hu h5 hf5 hM5 ho5 ho2
 go_wp2_with fail
 refine kC.mono ?_
 rintro e w6 ⟨rfl,F',h6,hst6⟩
 clear kC
 have c6:=h6.blk.cell
 unfold simC at c6
 clear c6
 obtain ⟨hE0,hbm,hpw,hcS,hok⟩:=hE
 have hs6:=hidIt (Eq.refl (0:Nat))
 obtain ⟨S6,hS6⟩:∃S6,Hid ({ S with pv:=(va,xs.length,vc),lb:=lb2,o:=o5,v:=v5,ys:=ys2++[y5],F:=F' }=S6):=⟨_,hidIt rfl⟩
 rw [hS6.out] at h6 hst6
 have q1:S6.wb=S.wb:=by rw [←hS6.out]
 have q2:S6.db=S.db:=by rw [←hS6.out]
 have q3:S6.dm=S.dm:=by rw [←hS6.out]
 have q4:S6.E=[c]:=by rw [←hS6.out];exact hE0
 have q5:S6.sc=some x:=by rw [←hS6.out];exact hsc
 have q6:S6.n=S.n:=by rw [←hS6.out]
 obtain ⟨BM,hBM⟩:∃Q,Hid (strL S.bm=Value.string Q):=⟨_,hidIt rfl⟩
 have hC:∀X,Blk X S.wb (simC S6) 65→X.cell? ⟨S.wb,3,none⟩=some (.pointer (some ⟨S.db,0,none⟩))∧X.cell? ⟨S.wb,15,none⟩=some (.string BM)∧X.cell? ⟨S.wb,16,none⟩=some (.pointer (some ⟨x.1,0,none⟩)):=by
  intro X hX
  have cc:=hX.cell
  rw [←hBM.out]
  refine ⟨?_,?_,?_⟩
  ·rw [cc 3,←hS6.out];rfl
  ·rw [cc 15,←hS6.out];rfl
  ·rw [cc 16,show (simC S6)[16]? = some (scP S6.sc) from rfl,q5];rfl
 have hblk:∀{X:World} {E':List Cel},SimW X { S6 with E:=E' }→Blk X S.wb (simC S6) 65:=fun hX=>by
  have:=hX.blk
  rw [show ({ S6 with E:=_ }:SimS).wb=S.wb from q1] at this
  exact this
 have hdir:∀{X:World} {E':List Cel},SimW X { S6 with E:=E' }→DirW X S.db S.dm E':=fun hX=>by
  have:=hX.dir
  rw [show ({ S6 with E:=_ }:SimS).db=S.db from q2,show ({ S6 with E:=_ }:SimS).dm=S.dm from q3] at this
  exact this
 replace h6:SimW w6 { S6 with E:=[c] }:=by rw [←q4];exact h6
 replace hst6:StepO w (allF (simF S)) w6 (allF (simF { S6 with E:=[c] })):=by rw [←q4];exact hst6
 have hsl:S.bm.length≤maxLen:=Nat.le_trans (okName_len hok) (by decide)
 have hwbE:∀{X:World} {E':List Cel},SimW X { S6 with E:=E' }→∀k,k∈homes S.db S.dm E'→k≠S.wb:=fun hX k hk e=>hX.sep.off 0 2 k (by decide) (by show k=S6.wb;rw [q1];exact e) (by show k∈homes S6.db S6.dm _;rw [q2,q3];exact hk)
 have hbmh:=hidIt hbm
 have hsinF:∀{X:World} {E':List Cel},SimW X { S6 with E:=E' }→BitW X x.1 x.2.1 (2*S.n) 1 x.2.2:=fun hX=>by
  have:=hX.sin x q5
  rw [show ({ S6 with E:=_ }:SimS).n=S.n from q6] at this
  exact this
 have hput:∀{X Y:World} {E' E'':List Cel},SimW X { S6 with E:=E' }→DirW Y S.db S.dm E''→Fr (feet E') X Y→feet E''=feet E'→SimW Y { S6 with E:=E'' }∧StepO X (allF (simF { S6 with E:=E' })) Y (allF (simF { S6 with E:=E'' })):=fun hX hD hf he=>by
  rw [←q2,←q3] at hD
  exact hX.dirF hD hf he
 have hput2:∀{X Y:World} {E' E'':List Cel},SimW X { S6 with E:=E' }→DirW Y S.db S.dm E''→Fr [S.dm] X Y→(∀k∈feet E'',k∈feet E'∨X.heap.size≤k)→SimW Y { S6 with E:=E'' }∧StepO X (allF (simF { S6 with E:=E' })) Y (allF (simF { S6 with E:=E'' })):=fun hX hD hf he=>by
  rw [←q3] at hf
  rw [←q2,←q3] at hD
  exact hX.dirNew hD hf he
 have hfin:=hidIt (fun (w':World) (c':Cel) (g1:c'.x=⟨c.x.name,c.x.on,true,2*S.n,c.x.g,mrg (2*S.n) c.x.g (clrE c.x).l 1 x.2.2⟩) (g2:SimW w' { S6 with E:=[c'] }) (g3:StepO w (allF (simF S)) w' (allF (simF { S6 with E:=[c'] })))=>show ∃S',FinJ S ps (fun E=>∃c':Cel,E=[c']∧c'.x=⟨c.x.name,c.x.on,true,2*S.n,c.x.g,mrg (2*S.n) c.x.g (clrE c.x).l 1 x.2.2⟩) S'∧SimW w' S'∧StepO w (allF (simF S)) w' (allF (simF S')) from ⟨{ S6 with E:=[c'] },⟨_,_,_,_,_,_,_,by rw [←hS6.out],hbs,c',rfl,g1⟩,g2,g3⟩)
 clear hj hS6 q1 q2 q3 q4 hs6 hE0 hF hold hbs hsc
 have h6d:=h6.fr0 (Fr.refl [] w6).drew
 have hst6d:=hst6.trans (StepO.fr0 (o:=allF (simF { S6 with E:=[c] })) (Fr.refl [] w6).drew)
 have kCl:=dClear_calls S.db S.dm [c] S.bm w6.drew (hdir h6d) hsl
 have hfd:findC [c] S.bm=some c:=by rw [←hbm];exact one_find c
 rw [hfd,show oneC [c] S.bm clrE=[c.on clrE] from by rw [←hbm];exact one_oneC c clrE,show dn (some c)=0 from rfl,hBM.out] at kCl
 have c6:=hC _ (hblk h6)
 go_wp2_with fail
 refine wp_region_G (fun X=>Blk X S.wb (simC S6) 65) [(true,0),(true,1),(true,2),(true,3),(true,4),(true,5),(true,6),(true,7),(true,8),(true,9),(true,10),(true,11),(true,12),(true,13),(true,14),(true,15),(true,16),(true,17),(true,18),(true,19),(false,20),(true,21),(true,22)] (by as_aux_lemma=>kernel_rfl) (by as_aux_lemma=>kernel_rfl) (hblk h6d) ?_
 simp only [inOrder,jD,jE,jF,jG]
 iterate 7 (refine wpG_pure fun K hK=>?_;go_simp;refine hK _ ?_;clear hK K)
 refine wpG_val (.pointer (some ⟨x.1,0,none⟩)) (by first | rfl | go_simp) (fun X hX=>by have cc:=(hC X hX).2.2;go_simp) ?_
 simp only [Act.put,jA,jB,jC]
 iterate 6 (refine wpG_pure fun K hK=>?_;go_simp;refine hK _ ?_;clear hK K)
 refine wpG_val (.pointer (some ⟨S.db,0,none⟩)) (by first | rfl | go_simp) (fun X hX=>by have cc:=(hC X hX).1;go_simp) ?_
 simp only [Act.put,jA,jB,jC]
 iterate 4 (refine wpG_pure fun K hK=>?_;go_simp;refine hK _ ?_;clear hK K)
 refine wpG_val (.string BM) (by first | rfl | go_simp) (fun X hX=>by have cc:=(hC X hX).2.1;go_simp) ?_
 simp only [Act.put,jA,jB,jC]
 refine wpG_one fun K hK=>?_
 go_simp
 refine (kCl).mono ?_
 rintro e w7 ⟨rfl,hD7,hf7⟩
 have hB7:Blk w7 S.wb (simC S6) 65:=(hblk h6d).fr hf7 (fun hm=>hwbE h6d _ (by simp only [homes,List.mem_cons];exact .inr (.inr hm)) rfl)
 refine hK _ _ (hB7) ?_
 clear hK K
 iterate 2 (refine wpG_pure fun K hK=>?_;go_simp;refine hK _ ?_;clear hK K)
 refine wpG_end ?_
 obtain ⟨c1,hc1⟩:∃c1,Hid (c.on clrE=c1):=⟨_,hidIt rfl⟩
 rw [hc1.out] at hD7
 have n1:c1.x.name=S.bm:=by rw [←hc1.out];exact hbm
 have n2:c1.x.on=c.x.on:=by rw [←hc1.out];rfl
 have n3:c1.x.use=true:=by rw [←hc1.out];rfl
 have n4:c1.x.S=2*S.n:=by rw [←hc1.out];show (doS c.x.g (c.x.S,c.x.l) (1,0,c.x.S)).1.1=_;rw [doS_clr];exact hcS
 have n5:c1.x.g=c.x.g:=by rw [←hc1.out];rfl
 have n6:c1.x.l=(clrE c.x).l:=by rw [←hc1.out];rfl
 have n7:feet [c1]=feet [c]:=by rw [←hc1.out];rfl
 have n8:=one_find c1
 rw [n1] at n8
 obtain ⟨h7,hst7⟩:=hput h6d hD7 hf7 n7
 replace hst7:=hst6d.trans hst7
 have hz7:w.heap.size≤w7.heap.size:=hst7.size
 have hd7:=(Fr.refl [] w7).drew
 have kG:=fun X (hX:Fr [] w7.drew X)=>Get_some S.db S.dm [c1] S.bm c1 X ((hdir h7).fr0 (hd7.trans0 hX)) hsl n8
 unfold entV at kG
 simp only [n1,n3,n4,n5,n6,hBM.out] at kG
 clear h6 h6d hst6 hst6d kCl hD7 hf7 hfd hcS hbm hc1 c6
 go_wp2_with fail
 refine wp_region_B2 (Fr [] w7.drew) [0,1,2,3,4,5,6,7,8] 9 13 [(true,10),(true,11),(true,12),(false,13),(false,14),(true,15)] [(false,9),(true,10),(true,11),(true,12),(false,14),(true,15)] (by as_aux_lemma=>kernel_rfl) (by as_aux_lemma=>kernel_rfl) (Fr.refl _ _) ?_
 simp only [inOrder,jD,jE,jF,jG]
 iterate 3 (refine wpB2_pure fun K hK=>?_;go_simp;refine hK _ ?_;clear hK K)
 refine wpB2_val (.pointer (some ⟨S.db,0,none⟩)) (by first | rfl | go_simp) (fun X hX=>by have cc:=(hC X (hB7.fr0 (hd7.trans0 hX))).1;go_simp) ?_
 simp only [Act.put,jA,jB,jC]
 iterate 4 (refine wpB2_pure fun K hK=>?_;go_simp;refine hK _ ?_;clear hK K)
 refine wpB2_val (.string BM) (by first | rfl | go_simp) (fun X hX=>by have cc:=(hC X (hB7.fr0 (hd7.trans0 hX))).2.1;go_simp) ?_
 simp only [Act.put,jA,jB,jC]
 refine wpB2_end ?armA ?armB
 case' armA =>
  refine wpG_one fun K hK=>?_
  go_simp
  refine (kG _ (Fr.refl _ _)).mono ?_
  rintro e w8 ⟨tb,mb2,rfl,hz1,hz2,hB8,hf8⟩
  refine hK _ _ (hf8) ?_
  clear hK K
  iterate 3 (refine wpG_pure fun K hK=>?_;go_simp;refine hK _ ?_;clear hK K)
  refine wpG_one fun K hK=>?_
  go_simp
  refine hK _ _ (hf8.alloc _) ?_
  clear hK K
  refine wpG_one fun K hK=>?_
  go_simp
  refine hK _ _ (hf8.alloc _) ?_
  clear hK K
  iterate 1 (refine wpG_pure fun K hK=>?_;go_simp;refine hK _ ?_;clear hK K)
  refine wpG_end ?_
  have hlt8:=hB8.lt
  obtain ⟨W,hW⟩:∃W,Hid (w8.alloc (.cells #[.string BM,.bool c.x.on,.bool true,.pointer (some ⟨tb,0,none⟩)] 144)=W):=⟨_,hidIt rfl⟩
  obtain ⟨eb,heb⟩:∃eb,Hid (w8.heap.size=eb):=⟨_,hidIt rfl⟩
  have BE:Blk W eb [.string BM,.bool c.x.on,.bool true,.pointer (some ⟨tb,0,none⟩)] 144:=by rw [←hW.out];exact Blk.new' heb.out.symm [.string BM,.bool c.x.on,.bool true,.pointer (some ⟨tb,0,none⟩)] _
  have hFW:Fr [] w7 W:=by rw [←hW.out];exact (hd7.trans0 hf8).alloc _
  have hBt:BitW W tb mb2 (2*S.n) c.x.g (clrE c.x).l:=by rw [←hW.out];exact hB8.fr0 ((Fr.refl [] w8).alloc _)
  have hne:w7.heap.size≤eb∧w7.heap.size≤tb∧w7.heap.size≤mb2∧eb≠tb∧eb≠mb2:=by
   have:=heb.out
   have hzz:w7.drew.heap.size=w7.heap.size:=rfl
   have:=hf8.size
   omega
  rw [hW.out,heb.out]
  clear hB8 hf8 hW heb hz1 hz2 hlt8
 case' armB =>
  have hfa:=(Fr.refl [] w7.drew).alloc (.cells #[.string ⟨#[]⟩,.bool false,.bool false,.pointer none] 144)
  have B3:Blk (w7.drew.alloc (.cells #[.string ⟨#[]⟩,.bool false,.bool false,.pointer none] 144)) w7.heap.size [.string ⟨#[]⟩,.bool false,.bool false,.pointer none] 144:=Blk.new w7.drew [.string ⟨#[]⟩,.bool false,.bool false,.pointer none] 144
  refine wpG_one fun K hK=>?_
  go_simp
  refine hK _ _ ((Fr.refl _ _).alloc _) ?_
  clear hK K
  refine wpG_one fun K hK=>?_
  go_simp
  refine (kG _ hfa).mono ?_
  rintro e w8 ⟨tb,mb2,rfl,hz1,hz2,hB8,hf8⟩
  have B4:=B3.fr0 hf8
  have c4:=B4.cell
  have f4:=B4.frozen
  have l4:=B4.lt
  refine hK _ _ (hfa.trans0 hf8) ?_
  clear hK K
  iterate 3 (refine wpG_pure fun K hK=>?_;go_simp;refine hK _ ?_;clear hK K)
  refine wpG_one fun K hK=>?_
  go_simp
  have hset:Fr [w7.heap.size] w8 ((((w8.setCell ⟨w7.heap.size,0,none⟩ (.string BM)).setCell ⟨w7.heap.size,1,none⟩ (.bool c.x.on)).setCell ⟨w7.heap.size,2,none⟩ (.bool true)).setCell ⟨w7.heap.size,3,none⟩ (.pointer (some ⟨tb,0,none⟩))):=((((Fr.refl [w7.heap.size] w8).setCell (p:=⟨w7.heap.size,0,none⟩) (.inl (by simp)) _).setCell (p:=⟨w7.heap.size,1,none⟩) (.inl (by simp)) _).setCell (p:=⟨w7.heap.size,2,none⟩) (.inl (by simp)) _).setCell (p:=⟨w7.heap.size,3,none⟩) (.inl (by simp)) _
  have hF9:=(hfa.trans0 hf8).trans1 hset (Nat.le_refl w7.heap.size)
  have B9:Blk ((((w8.setCell ⟨w7.heap.size,0,none⟩ (.string BM)).setCell ⟨w7.heap.size,1,none⟩ (.bool c.x.on)).setCell ⟨w7.heap.size,2,none⟩ (.bool true)).setCell ⟨w7.heap.size,3,none⟩ (.pointer (some ⟨tb,0,none⟩))) w7.heap.size [.string BM,.bool c.x.on,.bool true,.pointer (some ⟨tb,0,none⟩)] 144:=(((B4.setCell 0 (.string BM)).setCell 1 (.bool c.x.on)).setCell 2 (.bool true)).setCell 3 (.pointer (some ⟨tb,0,none⟩))
  refine hK _ _ hF9 ?_
  clear hK K
  iterate 1 (refine wpG_pure fun K hK=>?_;go_simp;refine hK _ ?_;clear hK K)
  refine wpG_end ?_
  have hdz:(w7.drew.alloc (.cells #[.string ⟨#[]⟩,.bool false,.bool false,.pointer none] 144)).heap.size=w7.heap.size+1:=World.size_alloc _ _
  clear c4 f4 l4 B3
  obtain ⟨W,hW⟩:∃W,Hid ((((w8.setCell ⟨w7.heap.size,0,none⟩ (.string BM)).setCell ⟨w7.heap.size,1,none⟩ (.bool c.x.on)).setCell ⟨w7.heap.size,2,none⟩ (.bool true)).setCell ⟨w7.heap.size,3,none⟩ (.pointer (some ⟨tb,0,none⟩))=W):=⟨_,hidIt rfl⟩
  obtain ⟨eb,heb⟩:∃eb,Hid (w7.heap.size=eb):=⟨_,hidIt rfl⟩
  have BE:Blk W eb [.string BM,.bool c.x.on,.bool true,.pointer (some ⟨tb,0,none⟩)] 144:=by rw [←hW.out,←heb.out];exact B9
  have hFW:Fr [] w7 W:=by rw [←hW.out];exact hd7.trans0 hF9
  have hBt:BitW W tb mb2 (2*S.n) c.x.g (clrE c.x).l:=by rw [←hW.out];exact hB8.fr hset (by simp;omega) (by simp;omega)
  have hne:w7.heap.size≤eb∧w7.heap.size≤tb∧w7.heap.size≤mb2∧eb≠tb∧eb≠mb2:=by
   have:=heb.out
   omega
  rw [hW.out,heb.out]
  clear hB8 hf8 hW heb hz1 hz2 hdz B4 B9 hF9 hset hfa
 all_goals
  clear kG
  have hwb7:=(hblk h7).lt
  have hdm7:S.dm<w7.heap.size:=(hdir h7).lt _ (by simp [homes])
  have hz8:=hFW.size
  have hX8:=h7.fr0 hFW
  have hst8:=hst7.trans (StepO.fr0 (o:=allF (simF { S6 with E:=[c1] })) hFW)
  have hdW:=(Fr.refl [] W).drew
  have h8d:=hX8.fr0 hdW
  have hst8d:=hst8.trans (StepO.fr0 (o:=allF (simF { S6 with E:=[c1] })) hdW)
  have kM:=Merge_yes tb mb2 (2*S.n) c.x.g (clrE c.x).l x.1 x.2.1 1 x.2.2 W.drew (hBt.fr0 hdW) (hsinF h8d)
  have hBEd:=BE.fr0 hdW
  go_wp2_with fail
  refine wp_region_G (fun X=>Blk X S.wb (simC S6) 65∧Blk X eb [.string BM,.bool c.x.on,.bool true,.pointer (some ⟨tb,0,none⟩)] 144) [(true,0),(true,1),(true,2),(true,3),(true,4),(true,5),(true,6),(false,7)] (by as_aux_lemma=>kernel_rfl) (by as_aux_lemma=>kernel_rfl) (⟨hblk h8d,hBEd⟩) ?_
  simp only [inOrder,jD,jE,jF,jG]
  iterate 1 (refine wpG_pure fun K hK=>?_;go_simp;refine hK _ ?_;clear hK K)
  refine wpG_val (.pointer (some ⟨tb,0,none⟩)) (by first | rfl | go_simp) (fun X hX=>by have cc:=Blk.cell hX.2;go_simp) ?_
  simp only [Act.put,jA,jB,jC]
  iterate 4 (refine wpG_pure fun K hK=>?_;go_simp;refine hK _ ?_;clear hK K)
  refine wpG_val (.pointer (some ⟨x.1,0,none⟩)) (by first | rfl | go_simp) (fun X hX=>by have cc:=(hC X hX.1).2.2;go_simp) ?_
  simp only [Act.put,jA,jB,jC]
  refine wpG_one fun K hK=>?_
  go_simp
  refine (kM).mono ?_
  rintro e w9 ⟨rfl,hB9,hf9⟩
  have hBE9:=hBEd.fr hf9 (by simp;omega)
  have hblk9:=(hblk h8d).fr hf9 (by simp;omega)
  refine hK _ _ (⟨hblk9,hBE9⟩) ?_
  clear hK K
  refine wpG_end ?_
  have h9:=h8d.off hf9 (fun k hk hh=>by
   obtain ⟨i,hi⟩:=hh
   have:=h7.sep.low i k hi
   have:=List.mem_singleton.1 hk
   omega)
  have hst9:=hst8d.away hf9 (fun k hk hl=>by have:=List.mem_singleton.1 hk;omega)
  have hd9:=(Fr.refl [] w9).drew
  have h9d:=h9.fr0 hd9
  replace hst9:=hst9.trans (StepO.fr0 (o:=allF (simF { S6 with E:=[c1] })) hd9)
  replace hB9:=hB9.fr0 hd9
  replace hBE9:=hBE9.fr0 hd9
  clear kM hBEd hblk9 h8d hst8d hst8 hX8 hBt BE hf9
  have kR:=Remove_calls S.db S.dm [c1] S.bm w9.drew (hdir h9d) hsl
  rw [n8,show dn (some c1)=0 from rfl,show rmC [c1] S.bm=[] from by rw [←n1];exact one_rm c1,hBM.out] at kR
  go_wp2_with fail
  refine wp_region_G (fun X=>Blk X S.wb (simC S6) 65) [(true,0),(true,1),(true,2),(true,3),(true,4),(true,5),(true,6),(true,7),(true,8),(false,9)] (by as_aux_lemma=>kernel_rfl) (by as_aux_lemma=>kernel_rfl) (hblk h9d) ?_
  simp only [inOrder,jD,jE,jF,jG]
  iterate 3 (refine wpG_pure fun K hK=>?_;go_simp;refine hK _ ?_;clear hK K)
  refine wpG_val (.pointer (some ⟨S.db,0,none⟩)) (by first | rfl | go_simp) (fun X hX=>by have cc:=(hC X hX).1;go_simp) ?_
  simp only [Act.put,jA,jB,jC]
  iterate 4 (refine wpG_pure fun K hK=>?_;go_simp;refine hK _ ?_;clear hK K)
  refine wpG_val (.string BM) (by first | rfl | go_simp) (fun X hX=>by have cc:=(hC X hX).2.1;go_simp) ?_
  simp only [Act.put,jA,jB,jC]
  refine wpG_one fun K hK=>?_
  go_simp
  refine (kR).mono ?_
  rintro e w10 ⟨rfl,hD10,hf10⟩
  obtain ⟨h10,hst10⟩:=hput2 (E'':=[]) h9d hD10 hf10 (fun k hk=>by cases hk)
  refine hK _ _ (hblk h10) ?_
  clear hK K
  refine wpG_end ?_
  have hd10:=(Fr.refl [] w10).drew
  have h10d:=h10.fr0 hd10
  replace hst10:=(hst9.trans hst10).trans (StepO.fr0 (o:=allF (simF { S6 with E:=[] })) hd10)
  have hB10:=(hB9.fr hf10 (by simp;omega) (by simp;omega)).fr0 hd10
  have hBE10:=(hBE9.fr hf10 (by simp;omega)).fr0 hd10
  clear kR hD10 h10 h9d hst9 hB9 hBE9 h9
  have kA:=Add_yes S.db S.dm [] S.bm tb mb2 (2*S.n) c.x.g _ w10.drew (hdir h10d) hok rfl (by decide) hB10 hpw
  rw [hBM.out] at kA
  go_wp2_with fail
  refine wp_region_G (fun X=>Blk X S.wb (simC S6) 65∧Blk X eb [.string BM,.bool c.x.on,.bool true,.pointer (some ⟨tb,0,none⟩)] 144) [(true,0),(true,1),(true,2),(true,3),(true,4),(true,5),(true,6),(true,7),(true,8),(true,9),(true,10),(false,11)] (by as_aux_lemma=>kernel_rfl) (by as_aux_lemma=>kernel_rfl) (⟨hblk h10d,hBE10⟩) ?_
  simp only [inOrder,jD,jE,jF,jG]
  iterate 3 (refine wpG_pure fun K hK=>?_;go_simp;refine hK _ ?_;clear hK K)
  refine wpG_val (.pointer (some ⟨S.db,0,none⟩)) (by first | rfl | go_simp) (fun X hX=>by have cc:=(hC X hX.1).1;go_simp) ?_
  simp only [Act.put,jA,jB,jC]
  iterate 4 (refine wpG_pure fun K hK=>?_;go_simp;refine hK _ ?_;clear hK K)
  refine wpG_val (.string BM) (by first | rfl | go_simp) (fun X hX=>by have cc:=(hC X hX.1).2.1;go_simp) ?_
  simp only [Act.put,jA,jB,jC]
  iterate 1 (refine wpG_pure fun K hK=>?_;go_simp;refine hK _ ?_;clear hK K)
  refine wpG_val (.pointer (some ⟨tb,0,none⟩)) (by first | rfl | go_simp) (fun X hX=>by have cc:=Blk.cell hX.2;go_simp) ?_
  simp only [Act.put,jA,jB,jC]
  refine wpG_one fun K hK=>?_
  go_simp
  refine (kA).mono ?_
  rintro e w11 ⟨rfl,c2,hc2,hD11,hcf,hf11⟩
  obtain ⟨h11,hst11⟩:=hput2 (E'':=[c2]) h10d hD11 hf11 (fun k hk=>.inr (hcf k (by simpa [feet] using hk)))
  have hz10:=hf10.size
  have hz10d:=hd10.size
  have heb10:=hBE10.lt
  have hBE11:=hBE10.fr hf11 (by simp;omega)
  refine hK _ _ (⟨hblk h11,hBE11⟩) ?_
  clear hK K
  refine wpG_end ?_
  have hd11:=(Fr.refl [] w11).drew
  have h11d:=h11.fr0 hd11
  replace hst11:=(hst10.trans hst11).trans (StepO.fr0 (o:=allF (simF { S6 with E:=[c2] })) hd11)
  replace hBE11:=hBE11.fr0 hd11
  clear kA hD11 h11 h10d hst10 hB10 hBE10
  have m1:c2.x.name=S.bm:=by rw [hc2]
  have m2:=one_find c2
  rw [m1] at m2
  have kW:=Switch_calls S.db S.dm [c2] S.bm c.x.on w11.drew (hdir h11d) hsl
  rw [m2,show dn (some c2)=0 from rfl,show oneC [c2] S.bm (onE c.x.on)=[c2.on (onE c.x.on)] from by rw [←m1];exact one_oneC c2 _,hBM.out] at kW
  have hlast:=hidIt (show ((c2.on (onE c.x.on)).x=⟨c.x.name,c.x.on,true,2*S.n,c.x.g,mrg (2*S.n) c.x.g (clrE c.x).l 1 x.2.2⟩) from by
   show onE c.x.on c2.x=_
   rw [hc2,hbmh.out]
   rfl)
  clear hc2 m1 m2
  go_wp2_with fail
  refine wp_region_G (fun X=>Blk X S.wb (simC S6) 65∧Blk X eb [.string BM,.bool c.x.on,.bool true,.pointer (some ⟨tb,0,none⟩)] 144) [(true,0),(true,1),(true,2),(true,3),(true,4),(true,5),(true,6),(true,7),(true,8),(true,9),(true,10),(false,11)] (by as_aux_lemma=>kernel_rfl) (by as_aux_lemma=>kernel_rfl) (⟨hblk h11d,hBE11⟩) ?_
  simp only [inOrder,jD,jE,jF,jG]
  iterate 3 (refine wpG_pure fun K hK=>?_;go_simp;refine hK _ ?_;clear hK K)
  refine wpG_val (.pointer (some ⟨S.db,0,none⟩)) (by first | rfl | go_simp) (fun X hX=>by have cc:=(hC X hX.1).1;go_simp) ?_
  simp only [Act.put,jA,jB,jC]
  iterate 4 (refine wpG_pure fun K hK=>?_;go_simp;refine hK _ ?_;clear hK K)
  refine wpG_val (.string BM) (by first | rfl | go_simp) (fun X hX=>by have cc:=(hC X hX.1).2.1;go_simp) ?_
  simp only [Act.put,jA,jB,jC]
  iterate 1 (refine wpG_pure fun K hK=>?_;go_simp;refine hK _ ?_;clear hK K)
  refine wpG_val (.bool c.x.on) (by first | rfl | go_simp) (fun X hX=>by have cc:=Blk.cell hX.2;go_simp) ?_
  simp only [Act.put,jA,jB,jC]
  refine wpG_one fun K hK=>?_
  go_simp
  refine (kW).mono ?_
  rintro e w12 ⟨rfl,hD12,hf12⟩
  obtain ⟨h12,hst12⟩:=hput (E'':=[c2.on (onE c.x.on)]) h11d hD12 hf12 rfl
  have hBE12:=hBE11.fr hf12 (fun hm=>by
   have:=hcf eb (by simpa [feet] using hm)
   omega)
  refine hK _ _ (⟨hblk h12,hBE12⟩) ?_
  clear hK K
  refine wpG_end ?_
  have hend:=hidIt (hfin.out _ _ hlast.out h12 (hst11.trans hst12))
  clear hfin hlast h12 hst12 hst11 h11d hD12 hf12 kW hBE12 hBE11 h7 hst7 h
  go_wp2
  go_ret
  exact ⟨rfl,hend.out⟩
end
section
variable {w w':World} {jb lm gm cb mb n room:Nat} {s:By} {p:List By} {o:Nat→Prop} {l:List Bool} {G:Got} {L:List Cd} {over done:Bool}
def phStepPost (w:World) (jb lm gm cb n:Nat) (s:By) (o:Nat→Prop) (l:List Bool) (G:Got) (V:Nat→By) (e:Ending) (w':World):Prop :=
 (cnt l=0∧e=.returned (.tuple #[.bool true,.int .i64 0])∧PshW w' jb lm gm cb n s o l G true true∧Fr [jb] w w') ∨
 (∃k,k∈onL l∧e=.returned (.tuple #[.bool false,.int .i64 0])∧phCopies w jb lm gm cb n s o (l.set k false,putG (unG G) k (V k)) w')
theorem phStep_calls (hJ:PshW w jb lm gm cb n s o l G false false) (hn8:n≤8)
 (h:ChG noEx w cb mb 1 room L) (hI:ImsK n L) (hp:IsPath (L.map (·.x)) s p) (hn:∀c∈L,c.nm.length≤maxLen) (hp8:p.length≤64) (hfar:¬chO cb mb L lm∧¬chO cb mb L gm) :
 Calls Tryz.prog 291 #[.pointer (some ⟨jb,0,none⟩)] w (phStepPost w jb lm gm cb n s o l G (viewK L n s p)):=by
 have hj:=hJ.blk.cell
 have hjf:=hJ.blk.frozen
 unfold pushC at hj
 have hln:=hJ.len
 have hgl:=hJ.lt (k:=gm) (.inr (.inr (.inl rfl)))
 have hjl:=hJ.lt (k:=jb) (.inl rfl)
 have hll:=hJ.lt (k:=lm) (.inr (.inl rfl))
 have kC:=fun X (hX:Fr [] w X) k (hk:k<n)=>phCopy_calls k (hJ.fr0 hX) hk hn8 (h.fr0 hX) hI hp hn hp8
 generalize viewK L n s p=V at *
 clear h hI hp hn hfar
 have hcard:=hJ.left.card 3
 go_enter Tryz.func291,Tryz.ntmps291
 by_cases hz:cnt l=0
 case pos =>
  have hc0:((cnt l:Nat):Int)=0:=by omega
  have hs1:Fr [jb] w (w.setCell ⟨jb,7,none⟩ (.bool true)):=(Fr.refl [jb] w).setCell (p:=⟨jb,7,none⟩) (.inl (by simp)) _
  have hs2:Fr [jb] w ((w.setCell ⟨jb,7,none⟩ (.bool true)).setCell ⟨jb,8,none⟩ (.bool true)):=hs1.setCell (p:=⟨jb,8,none⟩) (.inl (by simp)) _
  have hfin:=hidIt (show PshW ((w.setCell ⟨jb,7,none⟩ (.bool true)).setCell ⟨jb,8,none⟩ (.bool true)) jb lm gm cb n s o l G true true∧Fr [jb] w ((w.setCell ⟨jb,7,none⟩ (.bool true)).setCell ⟨jb,8,none⟩ (.bool true)) from ⟨⟨(hJ.blk.setCell 7 (.bool true)).setCell 8 (.bool true),hJ.left.fr hs2 (by have:=hJ.ne;simp;omega),hJ.got.fr hs2 (by have:=hJ.ne;simp;omega) (fun q hq=>by rw [List.mem_singleton.1 hq];exact hJ.no.1),hln,hJ.ne,hJ.no,fun q hq=>Nat.lt_of_lt_of_le (hJ.low q hq) hs2.size⟩,hs2⟩)
  clear hJ hs1 hs2 kC
  go_wp2
  go_ret2
  exact .inl ⟨hz,rfl,hfin.out.1,hfin.out.2⟩
 have hc0:¬((cnt l:Nat):Int)=0:=by omega
 have hon:=hidIt (show ∀m:Int,m∈(onL l).map (fun (k:Nat)=>(k:Int))→∃k:Nat,k∈onL l∧m=(k:Int)∧k<n from by
  intro m hm
  obtain ⟨k,hk,rfl⟩:=List.mem_map.1 hm
  exact ⟨k,hk,rfl,by have:=onL_lt hk;omega⟩)
 have hne:Hid ((onL l).map (fun (k:Nat)=>(k:Int))≠[]):=hidIt (fun h=>hz (by rw [←onL_cnt,List.map_eq_nil_iff.1 h];rfl))
 generalize cnt l=c at *
 go_wp2_with fail
 refine (keysM_calls lm w).mono ?_
 rintro e w1 ⟨rfl,hw1⟩
 have hF1:Fr [] w w1:=by rw [hw1];exact (Fr.refl _ w).alloc _
 have hBm:Blk w1 w.heap.size [.map (some lm)] 138:=by rw [hw1];exact Blk.new' rfl [_] _
 have kS:=leftCollect_calls (hJ.left.fr0 hF1) (by omega) _ hBm
 clear hw1 hBm
 go_wp2_with fail
 refine kS.mono ?_
 rintro e w2 ⟨v,ss,rfl,hpm,hsl,hf2,hvn⟩
 clear kS
 have hF2:=hF1.trans0 hf2
 have kM:=MinI_calls v ss w2 hsl (fun h=>hne.out (by rw [h] at hpm;exact List.eq_nil_of_length_eq_zero (by rw [←hpm.length_eq];rfl)))
 go_wp2_with fail
 refine kM.mono ?_
 rintro e w3 ⟨m,rfl,hm,_,hf3⟩
 obtain ⟨k,hk,rfl,hkn⟩:=hon.out m (hpm.mem_iff.1 hm)
 have hF3:=hF2.trans0 hf3
 have kX:=kC w3 hF3 k hkn
 have hz3:=hF3.size
 clear kM kC hsl hpm hm
 go_wp2_with fail
 refine kX.mono ?_
 rintro e w4 ⟨rfl,o2,v',g1,g2,g3⟩
 have hfin:=hidIt (show phCopies w jb lm gm cb n s o (l.set k false,putG (unG G) k (V k)) w4 from ⟨o2,_,g1,by rw [unG_put],fun q hq=>by exact (g2 q hq).imp id (fun h9=>by omega),hF3.weak.trans' g3⟩)
 clear kX g1 g2 g3
 go_wp2
 go_ret2
 exact .inr ⟨k,hk,rfl,hfin.out⟩
end
section
variable {w w':World} {S:SimS} {p:List By}
def psStep (S:SimS) (p:List By) (jb lm gm:Nat) (o:Nat→Prop) (l:List Bool) (G:Got) (EJ:List Cel→Prop) (S':SimS):Prop :=
 (∃k o' G',k∈onL l∧unG G'=putG (unG G) k (viewK S.L S.n S.s p k)∧S'={ S with j:=.push jb lm gm o' (l.set k false) G' false }) ∨
 (cnt l=0∧∃S2,FinJ { S with j:=.push jb lm gm o l G true } (gotL S.n (unG G)) EJ S2∧S'={ S2 with j:=.none })
def psPost (S:SimS) (R:SimS→Prop) (w:World) (e:Ending) (w':World):Prop :=
 e=.returned (.int .i64 0)∧∃S',R S'∧SimW w' S'∧StepO w (allF (simF S)) w' (allF (simF S'))
theorem sStep_push {jb lm gm:Nat} {o:Nat→Prop} {l:List Bool} {G:Got} {EJ:List Cel→Prop} (h:SimW w S) (hO:OkW S p) (hj:S.j=.push jb lm gm o l G false)
 (kF:cnt l=0→∀X,SimW X { S with j:=.push jb lm gm o l G true }→Calls Tryz.prog 58 #[.pointer (some ⟨S.wb,0,none⟩)] X (finPost X { S with j:=.push jb lm gm o l G true } (gotL S.n (unG G)) EJ)) (kd a g':Int) (va:Option Addr) (vn vc:Nat) (nm ot:By) (ka:Option Addr) (kn kc:Nat) :
 Calls Tryz.prog 25 #[.pointer (some ⟨S.wb,0,none⟩),.agg (stepC kd a g' (.slice va vn vc) nm ot (.slice ka kn kc)).toArray] w (psPost S (psStep S p jb lm gm o l G EJ) w):=by
 obtain ⟨w1,hw1⟩:∃w1,Hid (w.alloc (.cells (stepC kd a g' (.slice va vn vc) nm ot (.slice ka kn kc)).toArray 34)=w1):=⟨_,hidIt rfl⟩
 have hF1:Fr [] w w1:=by rw [←hw1.out];exact (Fr.refl [] w).alloc _
 have h1:=h.fr0 hF1
 have c0:=h1.cell
 rw [←hw1.out] at c0
 unfold simC at c0
 simp only [hj,JobS.face] at c0
 have hJ:PshW w1 jb lm gm S.cb S.n S.s o l G false false:=by
  have:=h1.job
  rw [hj] at this
  exact this
 have hf:∀k,S.j.o k→¬chO S.cb S.mb S.L k:=fun k hk hc=>h1.sep.off 1 5 k (by decide) hc hk
 rw [hj] at hf
 have kS:=phStep_calls hJ (by have:=hO.n;omega) h1.ch hO.ims hO.path hO.max (by have:=hO.deep;omega) ⟨hf lm (.inr (.inl rfl)),hf gm (.inr (.inr (.inl rfl)))⟩
 unfold phStepPost at kS
 have hst1:=StepO.fr0 (o:=allF (simF S)) hF1
 have m1:=met_phStep (.pointer (some ⟨jb,0,none⟩))
 have m2:=met_phOver (.pointer (some ⟨jb,0,none⟩))
 go_enter Tryz.func25,Tryz.ntmps25
 go_wp2_with fail
 rw [hw1.out]
 clear c0 hw1 hf
 refine kS.mono ?_
 intro e w2 hor
 clear kS
 rcases hor with ⟨hz,rfl,hJ2,hf2⟩ | ⟨k,hk,rfl,hcp⟩
 case inr =>
  obtain ⟨o',G',hG,h2,hst2,_⟩:=h1.copies hj hcp
  have hJ2:PshW w2 jb lm gm S.cb S.n S.s o' (l.set k false) G' false false:=h2.job
  have c2:=h2.blk.cell
  unfold simC at c2
  simp only [JobS.face,JobS.pp] at c2
  have hfin:=hidIt (show ∃S',psStep S p jb lm gm o l G EJ S'∧SimW w2 S'∧StepO w (allF (simF S)) w2 (allF (simF S')) from ⟨_,.inl ⟨k,o',G',hk,hG,rfl⟩,h2,hst1.trans hst2⟩)
  have kD:=phDone_calls hJ2
  have kO:=phOver_calls hJ2
  clear h2 hst2 hJ hJ2 hcp h1 h hO kF hst1 hj
  go_wp2_with fail
  refine kD.mono ?_
  rintro e w3 ⟨rfl,rfl⟩
  go_wp2_with fail
  refine kO.mono ?_
  rintro e w4 ⟨rfl,rfl⟩
  clear kD kO
  go_wp2
  go_ret
  exact ⟨rfl,hfin.out⟩
 case inl =>
  have hst5:StepO w1 S.j.o w2 (JobS.push jb lm gm o l G true).o:=by
   rw [hj]
   exact ⟨⟨_,hf2,fun q hq _=>.inl (List.mem_singleton.1 hq)⟩,fun q hq=>.inl hq⟩
  obtain ⟨h2,hst2⟩:=h1.jobJ (j':=.push jb lm gm o l G true) (by rw [hj];rfl) (by rw [hj];rfl) (by rw [hj];rfl) (by rw [hj];rfl) hJ2 hst5
  have c2:=h2.blk.cell
  unfold simC at c2
  simp only [JobS.face,JobS.pp] at c2
  have kD:=phDone_calls hJ2
  have kFi:=kF hz w2 h2
  have hst:=hst1.trans hst2
  clear hst2 hJ hJ2 h1 hO kF hst1 hst5 hf2
  go_wp2_with fail
  refine kD.mono ?_
  rintro e w3 ⟨rfl,rfl⟩
  clear kD
  go_wp2_with fail
  refine kFi.mono ?_
  rintro e w4 ⟨rfl,S2,hS2,h4,hst4⟩
  have hfj:=hS2
  obtain ⟨pv,lb,o2,v,ys,F,E,rfl,_,_⟩:=hfj
  have hJ4:PshW w4 jb lm gm S.cb S.n S.s o l G true true:=h4.job
  have c4:=h4.blk.cell
  unfold simC at c4
  simp only [JobS.face,JobS.pp] at c4
  have kO:=phOver_calls hJ4
  have kG:=sGone_calls h4
  have hst4':=hst.trans hst4
  clear kFi c2 hJ4
  go_wp2_with fail
  refine kO.mono ?_
  rintro e w5 ⟨rfl,rfl⟩
  clear kO
  go_wp2_with fail
  refine kG.mono ?_
  rintro e w6 ⟨rfl,g1,g2⟩
  have hfin:=hidIt (show ∃S',psStep S p jb lm gm o l G EJ S'∧SimW w6 S'∧StepO w (allF (simF S)) w6 (allF (simF S')) from ⟨_,.inr ⟨hz,_,hS2,rfl⟩,g1,sgone_step h4 hst4' g2⟩)
  clear kG g1 g2 h4 hst4 hst4' hS2 hst h2 h
  go_wp2
  go_ret
  exact ⟨rfl,hfin.out⟩
end
end Go.Proofs.YtffnihooekbcnaaGreat
