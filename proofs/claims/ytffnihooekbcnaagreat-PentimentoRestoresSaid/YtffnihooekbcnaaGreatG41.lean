/-
  The walk of PentimentoRestores: a whole backup, and one behind each event: each restores the disk as it was when its push began.
-/
import Derived.Test.YtffnihooekbcnaaGreatG40
import Derived.ProofKit
import Derived.OpenShut
import Derived.ChangeOld
import Derived.Deep.Slices
import Derived.SizedLaws
import Derived.Test.YtffnihooekbcnaaGreatRows
import Derived.ChangeMaps5
set_option maxRecDepth 100000
set_option maxHeartbeats 6400000
namespace Go.Proofs.YtffnihooekbcnaaGreat
open Go.RowKit Go.Maps
attribute [local go_sem] mapAt_alloc mapAt_setCell mapAt_drew mapAt_drewN cells_str store_str eql_str neq_str guard_str len_str
section
variable {w w':World}
theorem PentimentoRestores_any (w:World) (a:Int) (v:Value) (l:List Evt) (hv:EvsW w w.heap.size v l) (hnm:∀e∈l,e.nm.length≤maxLen):Calls Tryz.prog 3 #[.int .i64 a,v] w fun e w'=>e=.returned (.bool true)∧Fr [] w w':=by
 obtain ⟨va,vc,rfl,hlc,hcm⟩:=hv.open
 unfold maxLen at hcm
 have e0:strL []=Value.string ⟨#[]⟩:=rfl
 have eA:strL [97]=Value.string ⟨#[97]⟩:=rfl
 have eM:strL nM=Value.string ⟨#[109]⟩:=rfl
 have kF:=tFew_calls a w.heap.size _ l w hv
 unfold fewP at kF
 go_enter Tryz.func3,Tryz.ntmps3
 go_wp2_with fail
 refine kF.mono ?_
 rintro e w1 ⟨b,rfl,hf1,hb⟩
 clear kF
 cases b with
 | false =>
   have kL:=tLives_calls (w:=w1)
   clear hb hv
   go_wp2_with fail
   refine kL.mono ?_
   rintro e w2 ⟨rfl,hf2⟩
   have hfin:=hidIt (hf1.trans0 hf2)
   clear kL
   go_wp2
   go_ret
   exact ⟨rfl,hfin.out⟩
 | true =>
 obtain ⟨ha1,ha6,_⟩:=hb rfl
 clear hb
 by_cases hl:l.length≤12
 case neg =>
  have hl':(12:Int)<(l.length:Int):=by omega
  have kL:=tLives_calls (w:=w1)
  clear hv
  go_wp2_with fail
  refine kL.mono ?_
  rintro e w2 ⟨rfl,hf2⟩
  have hfin:=hidIt (hf1.trans0 hf2)
  clear kL
  go_wp2
  go_ret
  exact ⟨rfl,hfin.out⟩
 have hl':¬(12:Int)<(l.length:Int):=by omega
 obtain ⟨n,rfl⟩:=Int.eq_ofNat_of_zero_le (show 0≤a by omega)
 have hn:1≤n∧n≤6:=by omega
 have kW:=tWorld_calls (w:=w1) n hn
 unfold worldP at kW
 go_wp2_with fail
 refine kW.mono ?_
 rintro e w2 ⟨S,c,rfl,h2,hI2,hSn,hSy,hSj,hSs,hSL,hcx,hlow,hf2⟩
 clear kW hSL hcx hSs
 obtain ⟨wb,hwb⟩:∃x,Hid (S.wb=x):=⟨_,hidIt rfl⟩
 rw [hwb.out]
 have hz1:=hf1.size
 have hz2:=hf2.size
 obtain ⟨W3,hW3⟩:∃W3,Hid (w2.alloc (.cells #[.string ⟨#[97]⟩] 9)=W3):=⟨_,hidIt rfl⟩
 obtain ⟨nb,hnb⟩:∃x,Hid (w2.heap.size=x):=⟨_,hidIt rfl⟩
 have hN3:W3.ownsRow w.heap.size 9 1 (.slice (some ⟨nb,0,none⟩) 1 1) 1 [.string ⟨#[97]⟩]:=by
  rw [←hW3.out,←hnb.out]
  exact owns_one _ _ (by omega)
 have hf3:Fr [] w2 W3:=by rw [←hW3.out];exact (Fr.refl [] w2).alloc _
 obtain ⟨D0,hD0⟩:∃D,Hid (strL (catN S.n (vw S []))=Value.string D):=⟨_,hidIt rfl⟩
 have kD:=tDisk_calls (h2.fr0 hf3) hI2.ok
 rw [hD0.out,hwb.out,hSn] at kD
 go_wp2_with fail
 rw [hW3.out,hnb.out]
 refine kD.mono ?_
 rintro e w4 ⟨rfl,hf4⟩
 clear kD
 obtain ⟨W5,hW5⟩:∃W5,Hid (w4.alloc (.cells #[.string D0] 9)=W5):=⟨_,hidIt rfl⟩
 obtain ⟨ab,hab⟩:∃x,Hid (w4.heap.size=x):=⟨_,hidIt rfl⟩
 have hz3:=hf3.size
 have hz4:=hf4.size
 have hA5:W5.ownsRow w.heap.size 9 1 (.slice (some ⟨ab,0,none⟩) 1 1) 1 [.string D0]:=by
  rw [←hW5.out,←hab.out]
  exact owns_one _ _ (by omega)
 have hf5:Fr [] w4 W5:=by rw [←hW5.out];exact (Fr.refl [] w4).alloc _
 have hN5:=owns_fr (owns_fr hN3 hf4 (by simp)) hf5 (by simp)
 have h5:=((h2.fr0 hf3).fr0 hf4).fr0 hf5
 have kP:=do_whole h5 hI2 hSj hSy [97] (by decide)
 unfold pushP at kP
 simp only [stepC,e0,eA] at kP
 rw [hwb.out] at kP
 go_wp2_with fail
 rw [hW5.out,hab.out]
 refine kP.mono ?_
 rintro e w6 ⟨rfl,S6,h6,hI6,hw6,hn6,hys6,hnm6,hk6,hst6⟩
 clear kP
 have kE:=tEnds_calls h6 hI6 (by rw [hys6,hSy];decide)
 unfold endsP at kE
 rw [hw6] at kE
 go_wp2_with fail
 refine kE.mono ?_
 rintro e w7 ⟨rfl,p7,S7,Ws7,h7,hI7,hw7,hn7,hst7,hk7,hR⟩
 clear kE
 have hst:=hst6.trans hst7
 obtain ⟨hWs,hnm7⟩:Ws7=[vw S []]∧S7.ys.map (·.1.nm)=[[97]]:=by
  rcases hR with ⟨h9,_⟩ | ⟨_,h9,h8⟩
  ·exact absurd hk6 h9
  ·refine ⟨h9,?_⟩
   rw [h8,hys6,hSy,hnm6]
   rfl
 have hl7:S7.ys.length=1:=by have:=congrArg List.length hnm7;simpa using this
 have hfr5:∀q,w2.heap.size≤q→¬allF (simF S) q:=fun q hq=>h2.free hq
 have hqn:∀q,(Value.slice (some ⟨nb,0,none⟩) 1 1).ownBlock=some q→w2.heap.size≤q:=fun q hq=>by
  have h8:nb=q:=by simpa [Value.ownBlock] using hq
  have:=hnb.out
  omega
 have hqa:∀q,(Value.slice (some ⟨ab,0,none⟩) 1 1).ownBlock=some q→w2.heap.size≤q:=fun q hq=>by
  have h8:ab=q:=by simpa [Value.ownBlock] using hq
  have:=hab.out
  omega
 obtain ⟨g1,g2⟩:=owns_st hN5 hst (fun q hq=>hfr5 q (hqn q hq))
 obtain ⟨g3,g4⟩:=owns_st hA5 hst (fun q hq=>hfr5 q (hqa q hq))
 have hnab:nb≠ab:=by have:=hnb.out;have:=hab.out;have:nb<W3.heap.size:=(hN3.lt nb rfl).2;omega
 obtain ⟨hl1,hl2⟩:=hst.fresh ((hf1.trans0 hf2).trans0 ((hf3.trans0 hf4).trans0 hf5)) (fun q hq=>by have:=hlow q hq;omega)
 have k1:w7.ownsRow w.heap.size 9 1 (.slice (some ⟨nb,0,none⟩) 1 1) (S7.ys.map fun y=>y.1.nm).length ((S7.ys.map fun y=>y.1.nm).flatMap strC):=by
  rw [hnm7]
  exact g1
 have k2:w7.ownsRow w.heap.size 9 1 (.slice (some ⟨ab,0,none⟩) 1 1) (Ws7.map (catN n)).length ((Ws7.map (catN n)).flatMap strC):=by
  rw [hWs]
  show w7.ownsRow w.heap.size 9 1 (.slice (some ⟨ab,0,none⟩) 1 1) 1 [strL (catN n (vw S []))]
  rw [←hSn,hD0.out]
  exact g3
 have k3:∀q,(Value.slice (some ⟨nb,0,none⟩) 1 1).ownBlock=some q→(Value.slice (some ⟨ab,0,none⟩) 1 1).ownBlock≠some q:=fun q hq hq2=>by
  have h8:nb=q:=by simpa [Value.ownBlock] using hq
  have h9:ab=q:=by simpa [Value.ownBlock] using hq2
  omega
 have k4:∀y∈S7.ys,y.1.nm=[97]∨∃j,j<0∧y.1.nm=nameK j:=fun y hy=>by
  have:y.1.nm∈S7.ys.map (·.1.nm):=List.mem_map.2 ⟨y,hy,rfl⟩
  rw [hnm7] at this
  exact .inl (List.mem_singleton.1 this)
 have k5:S7.ys≠[]:=fun e9=>by rw [e9] at hl7;cases hl7
 have hrun:=hidIt (show ∃S p Ws W,RunW w n wb 0 (.slice (some ⟨nb,0,none⟩) 1 1) (.slice (some ⟨ab,0,none⟩) 1 1) w7 S p Ws W from
  ⟨S7,p7,Ws7,_,⟨⟨h7,hI7,hw7,hn7.trans (hn6.trans hSn),k5,k1,k2,g2,g4,k3,hl1,hl2⟩,hk7,by omega,k4⟩⟩)
 clear k1 k2 k3 k4 k5
 clear hR hst hst6 hst7 h7 hI7 h6 hI6 h5 h2 hI2 hN5 hA5 hN3 g1 g2 g3 g4 hl1 hl2 hfr5 hnm7 hWs hlow hSy hSj hys6 hnm6 hk6 hk7 hw7 hn7 hn6 hw6 hSn hf1 hf2 hf3 hf4 hf5 hl7 hnab hqn hqa
 clear hz1 hz2 hz3 hz4 hW3 hnb hW5 hab hwb hD0
 go_wp2_with fail
 go_loopw [6,7,43] (fun nv av i wr=>∃k:Nat,k≤l.length∧i=.int .i64 (k:Int)∧Hid (∃S p Ws W,RunW w n wb k nv av wr S p Ws W)) (fun _ _ i _=>l.length - (intOf i).toNat)
 case atStart=>exact ⟨0,Nat.zero_le _,rfl,hrun⟩
 case round =>
 clear hrun
 obtain ⟨k,hk,rfl,hrel⟩:=hrel
 obtain ⟨S,p,Ws,W,hR⟩:=hrel.out
 by_cases hlt:k<l.length
 case neg =>
  have hlt':¬(k:Int)<(l.length:Int):=by omega
  have kC:=do_crash hR.x.sim hR.x.inv hR.x.one
  unfold crPost at kC
  simp only [stepC,e0] at kC
  rw [hR.x.wb] at kC
  clear hv
  go_wp2_with fail
  refine kC.mono ?_
  rintro e w2 ⟨rfl,V,lb,o,v,ys,hB,hV,hL,hys,hst⟩
  clear kC
  obtain ⟨hN2,_⟩:=owns_st hR.x.nams hst hR.x.offn
  obtain ⟨hA2,_⟩:=owns_st hR.x.wass hst hR.x.offa
  have hfr2:=(hst.fresh hR.x.fr hR.x.low).2
  obtain ⟨na,nc,rfl,hnl,hnm2,_⟩:=SlF.open (SlF.of_owns hN2)
  obtain ⟨aa,ac,rfl,hal,ham2,_⟩:=SlF.open (SlF.of_owns hA2)
  have hNs:=SlF.of_owns (f:=strC) hN2
  have hAs:=SlF.of_owns (f:=strC) hA2
  have hNl:(S.ys.map fun y=>y.1.nm).length=S.ys.length:=List.length_map _
  have hAl:(Ws.map (catN n)).length=S.ys.length:=by rw [List.length_map];exact hR.x.inv.len
  have hyl:ys.length=S.ys.length:=by have:=congrArg List.length hys;simpa using this
  have hRs:=fun X (hX:Fr [] w2 X) j (hj:j<S.ys.length)=>restore_at hR.x.inv hys (hL.fr0 hX) j hj
  rw [hR.x.n] at hRs
  have hNat:∀j,j<S.ys.length→(S.ys.map fun y=>y.1.nm).getD j []=(S.ys.getD j zBv).1.nm:=fun j hj=>by
   rw [List.getD_eq_getElem?_getD,List.getElem?_map,List.getD_eq_getElem?_getD,List.getElem?_eq_getElem hj]
   rfl
  have hAat:∀j,j<S.ys.length→(Ws.map (catN n)).getD j []=catN n (Ws.getD j (fun _=>[])):=fun j hj=>by
   have hj':j<Ws.length:=by rw [hR.x.inv.len];exact hj
   rw [List.getD_eq_getElem?_getD,List.getElem?_map,List.getD_eq_getElem?_getD,List.getElem?_eq_getElem hj']
   rfl
  generalize (S.ys.map fun y=>y.1.nm)=NN at *
  generalize Ws.map (catN n)=AA at *
  rw [hNl] at hNs hnl ⊢
  rw [hAl] at hAs hal ⊢
  have hSl:S.ys.length≤13:=by have:=hR.few;omega
  have kNm:=fun X (hX:Fr [] w2 X)=>lsNames_calls (hL.fr0 hX) (by omega)
  have hyn:(ys.map fun y=>y.1.nm).length=S.ys.length:=by rw [List.length_map];exact hyl
  generalize (ys.map fun y=>y.1.nm)=YN at *
  have kLi:=fun X (hX:Fr [] w2 X)=>sList_at (hB.fr0 hX) hV
  generalize S.ys.length=m at *
  clear hR hrel hst hN2 hA2 hL hB hV
  go_wp2_with fail
  go_loopw [92] (fun i wq=>∃j:Nat,j≤m∧i=.int .i64 (j:Int)∧Fr [] w2 wq) (fun i _=>m - (intOf i).toNat)
  case atStart=>exact ⟨0,Nat.zero_le _,rfl,Fr.refl _ _⟩
  case round =>
  obtain ⟨j,hj,rfl,hF⟩:=hrel
  by_cases hjm:j<m
  case neg =>
   have hjm':¬(j:Int)<(m:Int):=by omega
   have kLv:=tLives_calls (w:=wr)
   clear hRs hNat hAat
   go_wp2_with fail
   refine kLv.mono ?_
   rintro e w3 ⟨rfl,hf3⟩
   clear kLv
   have hF3:=hF.trans0 hf3
   have kL3:=kLi _ hF3
   have kN3:=kNm _ hF3
   go_wp2_with fail
   refine kL3.mono ?_
   rintro e w4 ⟨rfl,hw4⟩
   rw [hw4]
   clear kL3 hw4
   go_wp2_with fail
   refine kN3.mono ?_
   rintro e w5 ⟨u,rfl,hu,_,hf5⟩
   obtain ⟨ua,uc,rfl,_⟩:=SlF.open hu
   rw [hyn]
   have hfin:=hidIt (hfr2.trans0 (hF3.trans0 hf5))
   clear hu kN3 kLi kNm hyn hf5 hf3 hF3 hF
   go_wp2
   go_ret
   exact ⟨rfl,hfin.out⟩
  have hjm':(j:Int)<(m:Int):=by omega
  obtain ⟨nb2,noff,rfl,hnb,d0⟩:=SlT.at (SlF.fr0 hNs hF) (i:=j) (by rw [hNl];exact hjm)
  rw [hNat j hjm] at d0
  obtain ⟨NJ,hNJ⟩:∃s,Hid (strL (S.ys.getD j zBv).1.nm=Value.string s):=⟨_,hidIt rfl⟩
  rw [hNJ.out] at d0
  have kL1:=kLi _ hF
  have kR1:=hRs _ hF j hjm
  rw [hNJ.out] at kR1
  unfold lsResPost at kR1
  obtain ⟨BJ,hBJ⟩:∃s,Hid (strL (catN n (Ws.getD j (fun _=>[])))=Value.string s):=⟨_,hidIt rfl⟩
  have hAj:=hAat j hjm
  clear hRs hNat hAat
  go_wp2_with fail
  refine kL1.mono ?_
  rintro e w3 ⟨rfl,hw3⟩
  rw [hw3]
  clear kL1 hw3
  go_wp2_with fail
  refine kR1.mono ?_
  rintro e w4 ⟨u,rfl,hu,_,hf4⟩
  clear kR1 d0
  have hF4:=hF.trans0 hf4
  have hd4:=hF4.drew
  have hcv:=conv_str (SlF.fr0 hu (Fr.refl [] w4).drew)
  obtain ⟨ua,uc,rfl,_⟩:=SlF.open hu
  rw [hBJ.out] at hcv
  obtain ⟨ab2,aoff,rfl,hab2,d1⟩:=SlT.at (SlF.fr0 hAs hd4) (i:=j) (by rw [hAl];exact hjm)
  rw [hAj,hBJ.out] at d1
  have hq:binOp .neq 9 (.string BJ) (.string BJ)=pure (.bool false):=by rw [←hBJ.out,neq_str,decide_eq_true rfl];rfl
  have hgd:∀(op:BinOp) (x y':Operand) (w:World),(eqGuard op 9 x y' (.string BJ) (.string BJ)).run Tryz.prog w=.ok () w:=fun op x y' w=>by rw [←hBJ.out];exact guard_str _ _ _ _ _ _
  generalize (catN n (Ws.getD j fun _=>[])).length=cl at *
  clear hu hf4 hF
  go_wp2_with fail
  refine wp_region_G (fun X=>X=w4.drew) [(true,0),(true,1),(true,2),(true,3),(true,4),(true,5),(true,6),(true,7),(true,8),(true,9),(true,10)] (by as_aux_lemma=>kernel_rfl) (by as_aux_lemma=>kernel_rfl) (rfl) ?_
  simp only [inOrder,jD,jE,jF,jG]
  iterate 4 (refine wpG_pure fun K hK=>?_;go_simp;refine hK _ ?_;clear hK K)
  refine wpG_val (.string BJ) (by first | rfl | go_simp) (fun X hX=>by subst hX;go_simp) ?_
  simp only [Act.put,jA,jB,jC]
  iterate 3 (refine wpG_pure fun K hK=>?_;go_simp;refine hK _ ?_;clear hK K)
  refine wpG_val (.string BJ) (by first | rfl | go_simp) (fun X hX=>by subst hX;go_simp) ?_
  simp only [Act.put,jA,jB,jC]
  iterate 2 (refine wpG_pure fun K hK=>?_;go_simp;refine hK _ ?_;clear hK K)
  refine wpG_end ?_
  clear hcv hq hgd d1
  go_wp2_with fail
  exact ⟨⟨j+1,by omega,by go_num,hd4⟩,by show m - ((j:Int)+1).toNat<m - ((j:Nat):Int).toNat;omega⟩
 have hlt':(k:Int)<(l.length:Int):=by omega
 obtain ⟨b,off,vb,rfl,hb,hb0,hbv,d0,d1,d2,d3⟩:=hv.at hlt
 have hcl:∀o,wr.cell? ⟨b,o,none⟩=w.cell? ⟨b,o,none⟩:=fun o=>World.cell?_of_block (hR.x.fr.block b hb (by simp))
 rw [←hcl] at d0 d1 d2 d3
 clear hcl
 replace hb:b<wr.heap.size:=Nat.lt_of_lt_of_le hb hR.x.fr.size
 obtain ⟨vba,vbc,rfl,hvl,hvm,_⟩:=hbv.sl.open
 have hnm:=hnm _ (getD_memE hlt)
 generalize l.getD k zEv=o at *
 obtain ⟨x,by_,kd,nm⟩:=o
 simp only at d0 d1 d2 d3 hnm hbv
 obtain ⟨N,hN⟩:∃N,Hid (strL nm=Value.string N):=⟨_,hidIt rfl⟩
 rw [hN.out] at d3
 obtain ⟨bl,hbl⟩:∃bl,Hid (by_.length=bl):=⟨_,hidIt rfl⟩
 rw [hbl.out] at d1 hbv
 obtain ⟨KD,hKD⟩:∃q,Hid (min (max kd 0) 6=q):=⟨_,hidIt rfl⟩
 have hKb:0≤KD∧KD≤6:=by have:=hKD.out;omega
 obtain ⟨W1,hW1⟩:∃W1,Hid (wr.alloc (.cells #[.int .i64 x,.slice vba bl vbc,.int .i64 KD,.string N] 37)=W1):=⟨_,hidIt rfl⟩
 obtain ⟨eb,heb⟩:∃eb,Hid (wr.heap.size=eb):=⟨_,hidIt rfl⟩
 have hf1:Fr [] wr W1:=by rw [←hW1.out];exact (Fr.refl [] wr).alloc _
 have BE:Blk W1 eb [.int .i64 x,.slice vba bl vbc,.int .i64 KD,.string N] 37:=by
  rw [←hW1.out]
  exact Blk.new' heb.out.symm [.int .i64 x,.slice vba bl vbc,.int .i64 KD,.string N] _
 have hX1:=hR.x.fr0 hf1
 have hfree:¬allF (simF S) eb:=hR.x.sim.free (by have:=heb.out;omega)
 have hold:∀{S':SimS},(∀q,allF (simF S') q→w.heap.size≤q)→0<by_.length→∀q,(Value.slice vba bl vbc).ownBlock=some q→¬allF (simF S') q:=fun hlow hp q hq hh=>by
  have:=hbv.old hp q hq
  have:=hlow q hh
  omega
 have hsl1:=(hbv.fr hX1.fr (by simp)).sl
 have kDo:=tDoes_calls hX1.sim hX1.inv x KD vba bl vbc by_ nm hsl1 (hold hX1.low) hKb (.inr hR.kind) hnm
 unfold doesP keptP at kDo
 rw [hX1.wb,hN.out] at kDo
 go_wp2_with fail
 rw [hKD.out,hW1.out,heb.out]
 refine kDo.mono ?_
 rintro e w2 ⟨rfl,p2,S2,h2,hI2,hs2,hst2,hkk2,_⟩
 have hebw:wr.heap.size≤eb:=by rw [heb.out];exact Nat.le_refl _
 clear kDo hW1 heb
 have hX2:=hX1.kept h2 hI2 hs2.wb hs2.n (by rw [hs2.ys];exact hX1.one) hst2
 have BE2:=hst2.blk BE hfree
 have hfree2:=hst2.out hfree BE.lt
 have hf12:=hX2.fr
 have hk12:k<12:=by omega
 obtain ⟨NK,hNK⟩:∃N,Hid (strL (nameK k)=Value.string N):=⟨_,hidIt rfl⟩
 have hcv:=conv_name (w:=w2) hk12
 rw [hNK.out] at hcv
 obtain ⟨D2,hD2⟩:∃D,Hid (strL (catN S2.n (vw S2 p2))=Value.string D):=⟨_,hidIt rfl⟩
 have hf23:Fr [] w2 (w2.alloc (.cells #[.int .u8 (98+(k:Int))] 5)):=(Fr.refl [] w2).alloc _
 have hX3:=hX2.fr0 hf23
 have BE3:=BE2.fr0 hf23
 have kDk:=tDisk_calls hX3.sim hX3.inv.ok
 rw [hD2.out,hX2.n,hX2.wb] at kDk
 go_wp2_with fail
 refine kDk.mono ?_
 rintro e w4 ⟨rfl,hf4⟩
 clear kDk hcv
 have hX4:=hX3.fr0 hf4
 have BE4:=BE3.fr0 hf4
 have hys14:S2.ys.length≤14:=by rw [hs2.ys];have:=hR.few;omega
 have hk2:=hkk2 hR.kind
 go_wp2_with fail
 by_cases hj2:S2.j=.none
 case neg =>
  have kB:=do_busy hX4.sim hX4.inv hj2 (nameK k)
  simp only [stepC,eM,hNK.out] at kB
  rw [hX4.wb] at kB
  refine kB.mono ?_
  rintro e w5 ⟨rfl,h5,hI5,hst5⟩
  clear kB
  have hX5:=hX4.kept h5 hI5 rfl rfl hX4.one hst5
  have kE:=tEnds_calls hX5.sim hX5.inv hys14
  unfold endsP at kE
  rw [hX5.wb] at kE
  go_wp2_with fail
  refine kE.mono ?_
  rintro e w6 ⟨rfl,p6,S6,Ws6,h6,hI6,hw6,hn6,hst6,hk6,hR6⟩
  clear kE
  obtain ⟨hy6,hWs6⟩:S6.ys=S2.ys∧Ws6=Ws:=by
   rcases hR6 with ⟨_,h9,h8⟩ | ⟨h9,_⟩
   ·exact ⟨h9,h8⟩
   ·exact absurd h9 hk2
  have hX6:=hX5.kept h6 hI6 (hw6.trans hX5.wb.symm) hn6 (by rw [hy6];exact hX5.one) hst6
  have hnx:=hidIt (show ∃S p Ws W,RunW w n wb (k+1) u6 u7 w6 S p Ws W from ⟨S6,p6,Ws6,_,RunW.same hX6 hR (hy6.trans hs2.ys) hWs6 hk6⟩)
  clear hX1 hX2 hX3 hX4 hX5 hX6 hR hrel h6 hI6 hst6 h5 hI5 hst5 h2 hI2 hst2 BE BE2 BE3 BE4 hv hbv hsl1
  go_wp2_with fail
  exact ⟨⟨k+1,by omega,by go_num,hnx⟩,by show l.length - ((k:Int)+1).toNat<l.length - ((k:Nat):Int).toNat;omega⟩
 have kP:=do_part hX4.sim hX4.inv hj2 hX4.one (by omega) (nameK k) (nameK_ok hk12) (by rw [hs2.ys];exact hR.new hk12)
 unfold pushP at kP
 simp only [stepC,eM,hNK.out] at kP
 rw [hX4.wb] at kP
 refine kP.mono ?_
 rintro e w5 ⟨rfl,S5,h5,hI5,hw5,hn5,hy5,hnm5,hk5,hst5⟩
 clear kP
 have hX5:=hX4.kept h5 hI5 (hw5.trans hX4.wb.symm) hn5 (by rw [hy5];exact hX4.one) hst5
 go_wp2_with (at_builtin;refine Hid.out ?_)
 refine hidIt ?_
 have hone:∀(t:ByteArray),∀u∈[Value.string t],u.oneCell'=true:=fun t u hu=>by rw [List.mem_singleton.1 hu];rfl
 have hls:(S.ys.map fun y=>y.1.nm).length≤13∧(Ws.map (catN n)).length≤13:=by
  have h8:=hR.few
  have h9:=hR.x.inv.len
  rw [List.length_map,List.length_map]
  omega
 have hqn:∀q,u6.ownBlock=some q→q≠eb:=fun q hq e=>by have:=(hR.x.nams.lt q hq).2;omega
 have hqa:∀q,u7.ownBlock=some q→q≠eb:=fun q hq e=>by have:=(hR.x.wass.lt q hq).2;omega
 have BE5:=hst5.blk BE4 hfree2
 have hfa:Fr [] w5 (w5.alloc (.cells #[.string NK] 9)):=(Fr.refl [] w5).alloc _
 have hX6:=hX5.fr0 hfa
 have BE6:=BE5.fr0 hfa
 refine wpList_append1 27 9 _ 1 16 Tryz.underlying27 infoTxK rfl (by decide) (by decide) rfl _ _ rfl w.heap.size _ _ _ rfl hX6.nams [.string NK] rfl (hone NK) w5.heap.size rfl (Blk.new' rfl [.string NK] _) (by omega) hX6.fr.size ?_
 intro nv' w6 hown6 hg6 hl6
 replace hg6:(w5.alloc (.cells #[.string NK] 9)).grownBy w6 u6.ownBlock:=hg6
 rw [←hNK.out] at hown6
 have hX7:=hX6.name hown6 hg6 hl6
 have BE7:=BE6.fr (Fr.of_grown hg6) (fun hm=>hqn eb (by simpa using hm) rfl)
 go_wp2_with (at_builtin;refine Hid.out ?_)
 refine hidIt ?_
 have hfb:Fr [] w6 (w6.alloc (.cells #[.string D2] 9)):=(Fr.refl [] w6).alloc _
 have hX8:=hX7.fr0 hfb
 have BE8:=BE7.fr0 hfb
 refine wpList_append1 27 9 _ 1 16 Tryz.underlying27 infoTxK rfl (by decide) (by decide) rfl _ _ rfl w.heap.size _ _ _ rfl hX8.wass [.string D2] rfl (hone D2) w6.heap.size rfl (Blk.new' rfl [.string D2] _) (by omega) hX8.fr.size ?_
 intro av' w7 hown7 hg7 hl7
 replace hg7:(w6.alloc (.cells #[.string D2] 9)).grownBy w7 u7.ownBlock:=hg7
 rw [←hD2.out] at hown7
 have hX9:=hX8.was hown7 hg7 hl7
 have BE9:=BE8.fr (Fr.of_grown hg7) (fun hm=>hqa eb (by simpa using hm) rfl)
 have c9:=BE9.cell
 have hsl9:=(hbv.fr hX9.fr (by simp)).sl
 have kDo2:=tDoes_calls hX9.sim hX9.inv x 0 vba bl vbc by_ [] hsl9 (hold hX9.low) (by decide) (.inl rfl) (by decide)
 unfold doesP keptP at kDo2
 rw [hX9.wb,e0] at kDo2
 have hX6':=hX9
 clear hX8 hX7 hX6 hg6 hg7 hl6 hl7 hown6 hown7 hfa hfb BE8 BE7 BE6 BE5
 go_wp2_with fail
 refine kDo2.mono ?_
 rintro e wA ⟨rfl,pA,SA,hA,hIA,hsA,hstA,_,hkA⟩
 clear kDo2
 have hkA3:SA.j.kind=3:=(hkA trivial).trans hk5
 have hXA:=hX9.kept hA hIA hsA.wb hsA.n (by rw [hsA.ys];exact hX9.one) hstA
 have kE:=tEnds_calls hXA.sim hXA.inv (by rw [hsA.ys,hy5];exact hys14)
 unfold endsP at kE
 rw [hXA.wb] at kE
 go_wp2_with fail
 refine kE.mono ?_
 rintro e wB ⟨rfl,pB,SB,WsB,hB,hIB,hwB,hnB,hstB,hkB,hRB⟩
 clear kE
 obtain ⟨hWsB,hyB⟩:WsB=Ws++[vw S2 p2]∧SB.ys.map (·.1.nm)=S.ys.map (·.1.nm)++[nameK k]:=by
  rcases hRB with ⟨h9,_⟩ | ⟨_,h9,h8⟩
  ·exact absurd hkA3 h9
  ·refine ⟨h9,?_⟩
   rw [h8,hsA.ys,hy5,hs2.ys,hsA.nm,hnm5]
 have hXB:=hXA.kept hB hIB (hwB.trans hXA.wb.symm) hnB (fun e9=>by rw [e9] at hyB;simp at hyB) hstB
 rw [show S2.n=n from hX2.n] at hXB
 have hnx:=hidIt (show ∃S p Ws W,RunW w n wb (k+1) nv' av' wB S p Ws W from ⟨SB,pB,WsB,_,RunW.more hXB hR hyB hWsB hkB⟩)
 clear hX1 hX2 hX3 hX4 hX5 hX9 hX6' hXA hXB hR hrel hB hIB hstB hA hIA hstA h5 hI5 hst5 h2 hI2 hst2 BE BE2 BE3 BE4 BE9 hv hbv hsl1 hsl9
 go_wp2_with fail
 exact ⟨⟨k+1,by omega,by go_num,hnx⟩,by show l.length - ((k:Int)+1).toNat<l.length - ((k:Nat):Int).toNat;omega⟩
end
end Go.Proofs.YtffnihooekbcnaaGreat
namespace Go.Proofs.YtffnihooekbcnaaGreat
open Go.RowKit Go.ChangeShapes Go.WideShapes Go.ChangeAt Go.Deep
def wfI (n:Int):Prop:=-9223372036854775808≤n∧n≤9223372036854775807
theorem wfI_of {n:Int} (h:(Lit.int .i64 n).wf=true):wfI n:=by
 simpa [Lit.wf,IntKind.min,IntKind.max,IntKind.signed,IntKind.bits,wfI] using h
section
variable {H:Type} {enc:TypeId × Value→H} {P:Program} {w:World} {base:Nat} {spare:Nat→Bool} {held:Bool} {n:Nat} {cs:List Value} {y:DataW H × List MemPlace}
theorem el_int {t:TypeId} (ht:P.underlying t=some (.int .i64)) (h:DataW.trod enc P w base spare held n t cs=some y):∃x,cs=[.int .i64 x]∧wfI x:=by
 obtain ⟨x,hx,_,hw⟩:=DataW.trod_int ht h
 exact ⟨x,hx,wfI_of hw⟩
theorem spot_none {W:World} {a:Addr} {u:Value} (h:W.cell? a=some u):a.spot=none:=by
 unfold World.cell? at h
 split at h
 ·split at h
  ·cases h
  ·rename_i hs
   cases hsp:a.spot with
   | none=>rfl
   | some _=>simp [hsp] at hs
 ·cases h
theorem add_form (a:Addr) (h:a.spot=none) (n:Nat):a.add n=⟨a.block,a.off+n,none⟩:=by
 obtain ⟨b,o,s⟩:=a
 simp only at h
 subst h
 unfold Addr.add
 split <;> simp_all
theorem open_SlF {α:Type} (f:α→List Value) (ok:α→Prop) {t e:TypeId} {v:Value} {d:DataW H} {p:List MemPlace} {k:Nat} (hfk:∀x,(f x).length=k) (ht:P.underlying t=some (.slice e)) (hk:P.cellsOf e=k) (hk0:0<k)
 (hel:∀n cs y,DataW.trod enc P w 0 spare held n e cs=some y→∃x,cs=f x∧ok x) (hv:∃a n c,v=.slice a n c) (h:DataW.Trod enc P w 0 spare held t v d p) :
 ∃l:List α,SlF f w v l∧∀x∈l,ok x:=by
 obtain ⟨a0,n0,c0,rfl⟩:=hv
 obtain ⟨fuel,hf⟩:=h
 rcases open_slice ht hf with ⟨hcs,_⟩ | ⟨a,len,cap,m,n,D,Pl,hcs,_,hl,hm,hmm,_,hi⟩
 ·simp [Value.cells] at hcs
  obtain ⟨rfl,rfl,rfl⟩:=hcs
  exact ⟨[],Sl.nil w,by simp⟩
 ·simp [Value.cells] at hcs
  obtain ⟨rfl,rfl,rfl⟩:=hcs
  have hle:n0≤m:=by rw [hmm];split <;> omega
  rw [hk] at hi
  have hx:∀i,i<n0→∃x,ok x∧∀j u,(f x)[j]? = some u→w.cell? ((a.add (i*k)).add j)=some u:=fun i hin=>by
   obtain ⟨cs',hc,ht'⟩:=hi i (by omega)
   obtain ⟨x,rfl,hok⟩:=hel _ _ _ ht'
   obtain ⟨_,hlen,hat⟩:=World.cells?_some hc
   refine ⟨x,hok,fun j u hu=>?_⟩
   have hj:j<(f x).length:=(List.getElem?_eq_some_iff.1 hu).1
   rw [hat j (by rw [←hfk x];exact hj)]
   exact hu
  by_cases hn0:n0=0
  ·subst hn0
   exact ⟨[],⟨some a,c0,rfl,Nat.zero_le _,hm,.inl rfl⟩,by simp⟩
  ·classical
   obtain ⟨x00,_,h00⟩:=hx 0 (by omega)
   have hu0:(f x00)[0]? = some ((f x00)[0]'(by rw [hfk];exact hk0)):=List.getElem?_eq_getElem _
   have hsp:a.spot=none:=by
    have:=h00 0 _ hu0
    rw [Nat.zero_mul,Addr.add_zero',Addr.add_zero'] at this
    exact spot_none this
   let g:Nat→α:=fun i=>if h:i<n0 then (hx i h).choose else x00
   have hg:∀i,i<n0→ok (g i)∧∀j u,(f (g i))[j]? = some u→w.cell? ((a.add (i*k)).add j)=some u:=fun i hin=>by
    simp only [g,dif_pos hin]
    exact (hx i hin).choose_spec
   refine ⟨(List.range n0).map g,⟨some a,c0,by simp,by simpa using hl,hm,.inr ⟨a.block,a.off,?_,?_,fun j u hu=>?_⟩⟩,fun x hxm=>?_⟩
   ·obtain ⟨b,o,s⟩:=a
    simp only at hsp
    subst hsp
    rfl
   ·have:=(hg 0 (by omega)).2 0 _ (List.getElem?_eq_getElem (by rw [hfk];exact hk0))
    rw [Nat.zero_mul,Addr.add_zero',Addr.add_zero'] at this
    exact World.block_lt_of_cell? w a this
   ·have hj:j<((List.range n0).map g).length*k:=by
     have h1:=(List.getElem?_eq_some_iff.1 hu).1
     rw [List.length_flatMap] at h1
     have:(((List.range n0).map g).map fun x=>(f x).length).sum=((List.range n0).map g).length*k:=by
      rw [List.map_congr_left (g:=fun _=>k) (fun x _=>hfk x),List.map_const',List.sum_replicate_nat]
     omega
    obtain ⟨q,r,hr,rfl⟩:∃q r,r<k∧j=q*k+r:=⟨j / k,j % k,Nat.mod_lt _ hk0,(Nat.div_add_mod' j k).symm⟩
    rw [flat_at f k hfk _ q r hr] at hu
    have hq:q<n0:=by
     rw [List.length_map,List.length_range] at hj
     exact Nat.lt_of_not_le fun hle=>by
      have:=Nat.mul_le_mul_right k hle
      omega
    rw [List.getElem?_map,List.getElem?_range hq] at hu
    have:=(hg q hq).2 r u (by simpa using hu)
    rw [add_form a hsp,add_form _ rfl] at this
    simp only at this
    rw [←Nat.add_assoc]
    exact this
   ·obtain ⟨i,hi',rfl⟩:=List.mem_map.1 hxm
    exact (hg i (by simpa using hi')).1
end
section
variable {H:Type} {enc:TypeId × Value→H} {w:World} {r:Reach} {base:Nat} {spare:Nat→Bool} {held:Bool} {v:Value} {d:DataW H} {p:List MemPlace}
theorem in_int (hok:Value.okWide Tryz.prog w r base 3 v) (h:DataW.Trod enc Tryz.prog w 0 spare held 3 v d p):∃n,v=.int .i64 n∧wfI n:=by
 obtain ⟨n,rfl,_,_,hw⟩:=open_int Tryz.underlying3 hok h
 exact ⟨n,rfl,wfI_of hw⟩
end
section
variable {H:Type} {enc:TypeId × Value→H} {w:World} {r:Reach} {base:Nat} {spare:Nat→Bool} {held:Bool} {v:Value} {d:DataW H} {p:List MemPlace}
theorem el_byte {P:Program} {n:Nat} {cs:List Value} {y:DataW H × List MemPlace} {base:Nat} {spare:Nat→Bool} {held:Bool} {t:TypeId} (ht:P.underlying t=some (.int .u8)) (h:DataW.trod enc P w base spare held n t cs=some y):∃b:UInt8,cs=byC b∧True:=by
 obtain ⟨x,hx,_,hw⟩:=DataW.trod_int ht h
 have hb:0≤x∧x≤255:=by simpa [Lit.wf,IntKind.min,IntKind.max,IntKind.signed,IntKind.bits] using hw
 refine ⟨UInt8.ofNat x.toNat,?_,trivial⟩
 rw [hx]
 have:((UInt8.ofNat x.toNat).toNat:Int)=x:=by rw [ofNat_toNat];omega
 rw [byC,this]
theorem sl_ok {P:Program} {w:World} {spare:Nat→Bool} {held:Bool} {v:Value} {d:DataW H} {p:List MemPlace} {t e:TypeId} (ht:P.underlying t=some (.slice e)) (h:DataW.Trod enc P w 0 spare held t v d p):okV v:=by
 intro n cap hv
 obtain ⟨fuel,hf⟩:=h
 rcases open_slice ht hf with ⟨hcs,hx⟩ | ⟨a,len,cap',m,n',D,Pl,hcs,_,hl',hm,hmm,hx,hi⟩
 ·rw [hv] at hcs
  simp [Value.cells] at hcs
  exact hcs.2
 ·rw [hv] at hcs
  simp [Value.cells] at hcs
end
section
variable {H:Type} {enc:TypeId × Value→H} {w:World} {r:Reach} {base:Nat} {spare:Nat→Bool} {held:Bool} {v:Value} {d:DataW H} {p:List MemPlace}
theorem trodI_slice {P:Program} {t e:TypeId} {n:Nat} {u:Value} {y:DataW H × List MemPlace} (ht:P.underlying t=some (.slice e)) (h:DataW.trod enc P w 0 spare held n t [u]=some y):∃a n c,u=.slice a n c:=by
 rcases open_slice ht h with ⟨hcs,_⟩ | ⟨a',len,cap,m,n',D,Pl,hcs,_⟩
 ·simp at hcs;exact ⟨_,_,_,hcs⟩
 ·simp at hcs;exact ⟨_,_,_,hcs⟩
theorem elI_str {P:Program} {n:Nat} {cs:List Value} {y:DataW H × List MemPlace} {t:TypeId} (ht:P.underlying t=some .string) (h:DataW.trod enc P w 0 spare held n t cs=some y):∃s:List UInt8,cs=[strL s]∧s.length≤maxLen:=by
 obtain ⟨s,hs,_,hl⟩:=DataW.trod_string ht h
 exact ⟨s.data.toList,by rw [hs,str_eq],hl⟩
theorem el_bytes {n:Nat} {u:Value} {y:DataW H × List MemPlace} (h:DataW.trod enc Tryz.prog w 0 spare held n 31 [u]=some y):∃l,SlY w u l∧okV u:=by
 have hu:=trodI_slice Tryz.underlying31 h
 have hc:[u]=u.cells.toList:=by obtain ⟨_,_,_,e⟩:=hu;rw [e];rfl
 have hT:DataW.Trod enc Tryz.prog w 0 spare held 31 u y.1 y.2:=⟨n,by rw [←hc];exact h⟩
 obtain ⟨l,hl,_⟩:=open_SlF (k:=1) byC (fun _=>True) (fun _=>rfl) Tryz.underlying31 (by kernel_rfl) (by decide) (fun n cs y h=>el_byte Tryz.underlying5 h) hu hT
 exact ⟨l,hl,sl_ok Tryz.underlying31 hT⟩
end
end Go.Proofs.YtffnihooekbcnaaGreat
