/-
  Package pull: Next.
-/
import Derived.Test.YtffnihooekbcnaaGreatG15
set_option maxRecDepth 100000
set_option maxHeartbeats 6400000
namespace Go.Proofs.YtffnihooekbcnaaGreat
open Go.RowKit Go.Maps
attribute [local go_sem] mapAt_alloc mapAt_setCell mapAt_drew mapAt_drewN cells_str store_str eql_str neq_str guard_str len_str
def kindD (D:List Dk) (t:By) (k:Nat):Int:=match fD D t with | some d=>(d.M.t.getD k zS).1 | none=>0
def quietD (D:List Dk) (n:Nat) (s:By) (p:List By):Prop:=∀k,k<n→kindD D s k=0→∀t∈p,kindD D t k=0
section
variable {w w':World} {cb mb room:Nat} {L:List Cd}
theorem kindD_of {t:By} {c:Cd} (hc:fK L t=some c) (k:Nat):kindD (L.map (·.x)) t k=(c.x.M.t.getD k zS).1:=by
 unfold kindD
 rw [fK_D,hc]
 rfl
theorem pHole_calls (t:By) (n k bj jb:Nat) (s:By) (c:Cd) (h:ChG noEx w cb mb 1 room L) (hI:ImsK n L) (hc:fK L t=some c) (hn:∀c∈L,c.nm.length≤maxLen) (hk:k<n)
 (hB:Blk w bj [.pointer (some ⟨jb,0,none⟩)] 89) (hJ:Blk w jb (pullC cb s false) 153) :
 Calls Tryz.prog 298 #[strL t,.int .i64 (k:Int),.pointer (some ⟨bj,0,none⟩)] w fun e w'=>e=.returned (.bool (decide (kindD (L.map (·.x)) t k=0)))∧Fr [] w w':=by
 have hcm:=(nlFind_mem hc).1
 have htl:t.length≤maxLen:=by rw [←(nlFind_mem hc).2];exact hn c hcm
 have c1:=hB.cell
 have c2:=hJ.cell
 unfold pullC at c2
 have kI:=chImage_calls t h htl
 rw [hc] at kI
 have kS:=iSize_calls w (h.img c hcm (fun h=>h))
 have kK:=iKind_calls (k:Int) w (h.img c hcm (fun h=>h))
 rw [tget_nat] at kK
 rw [(hI c hcm).2.2] at kS
 rw [kindD_of hc]
 have hkn:decide (n≤k)=false:=decide_eq_false (by omega)
 clear h hI hn hc hB hJ
 generalize (c.x.M.t.getD k zS).1=kd at *
 have hd:decide (kd=0)=(kd == 0):=by by_cases h:kd=0 <;> simp [h]
 rw [hd]
 go_enter Tryz.func298,Tryz.ntmps298
 go_wp2_with fail
 refine kI.mono ?_
 rintro e w1 ⟨rfl,hw1⟩
 rw [hw1]
 clear hw1 w1 kI
 go_wp2_with fail
 refine kS.mono ?_
 rintro e w2 ⟨rfl,rfl⟩
 go_wp2_with fail
 refine kK.mono ?_
 rintro e w3 ⟨rfl,hf3⟩
 clear kS kK c1 c2 hd
 go_wp2
 go_ret
 exact ⟨rfl,hf3⟩
def nextPost (w:World) (D:List Dk) (n:Nat) (s:By) (p:List By) (e:Ending) (w':World):Prop :=
 ∃(k:Nat) (b:Bool),e=.returned (.tuple #[.int .i64 (k:Int),.bool b])∧(b=true→k<n)∧(b=false→quietD D n s p)∧Fr [] w w'
theorem pNext_calls (s:By) (p:List By) (n jb:Nat) (c:Cd) (h:ChG noEx w cb mb 1 room L) (hI:ImsK n L) (hp:IsPath (L.map (·.x)) s p) (hc:fK L s=some c) (hn:∀c∈L,c.nm.length≤maxLen) (hp8:p.length≤64) (hn2:n≤256)
 (hJ:Blk w jb (pullC cb s false) 153):Calls Tryz.prog 296 #[.pointer (some ⟨jb,0,none⟩)] w (nextPost w (L.map (·.x)) n s p):=by
 have hcm:=(nlFind_mem hc).1
 have hsl:s.length≤maxLen:=by rw [←(nlFind_mem hc).2];exact hn c hcm
 have hf0:=(Fr.refl [] w).alloc (.cells #[.pointer (some ⟨jb,0,none⟩)] 89)
 have B0:=Blk.new w [.pointer (some ⟨jb,0,none⟩)] 89
 generalize hw1:w.alloc (.cells #[.pointer (some ⟨jb,0,none⟩)] 89)=w1 at *
 have hq:=hidIt hw1
 clear hw1
 have hJ1:=hJ.fr0 hf0
 have hj:=fun X (hX:Fr [] w1 X)=>(hJ1.fr0 hX).cell
 have hb:=fun X (hX:Fr [] w1 X)=>(B0.fr0 hX).cell
 unfold pullC at hj
 have kI:=fun X (hX:Fr [] w X)=>chImage_calls s (h.fr0 hX) hsl
 simp only [hc] at kI
 have kB:=fun X (hX:Fr [] w X)=>pBetween_calls s p (h.fr0 hX) hp hn hp8
 unfold betwPost at kB
 have hdr:=(Fr.refl [] w1).drew
 go_enter Tryz.func296,Tryz.ntmps296
 go_wp2_with fail
 rw [hq.out]
 refine wp_region_G (fun X=>Fr [] w1.drew X) [(true,0),(true,1),(true,2),(true,3),(true,4),(true,5),(true,6),(true,7),(false,8),(true,9)] (by as_aux_lemma=>kernel_rfl) (by as_aux_lemma=>kernel_rfl) (Fr.refl _ _) ?_
 simp only [inOrder,jD,jE,jF,jG]
 refine wpG_val (.pointer (some ⟨jb,0,none⟩)) (by first | rfl | go_simp) (fun X hX=>by have cc:=hb X (hdr.trans0 hX);go_simp) ?_
 simp only [Act.put,jA,jB,jC]
 iterate 2 (refine wpG_pure fun K hK=>?_;go_simp;refine hK _ ?_;clear hK K)
 refine wpG_val (.pointer (some ⟨cb,0,none⟩)) (by first | rfl | go_simp) (fun X hX=>by have cc:=hj X (hdr.trans0 hX);go_simp) ?_
 simp only [Act.put,jA,jB,jC]
 refine wpG_val (.pointer (some ⟨jb,0,none⟩)) (by first | rfl | go_simp) (fun X hX=>by have cc:=hb X (hdr.trans0 hX);go_simp) ?_
 simp only [Act.put,jA,jB,jC]
 iterate 2 (refine wpG_pure fun K hK=>?_;go_simp;refine hK _ ?_;clear hK K)
 refine wpG_val (strL s) (by first | rfl | go_simp) (fun X hX=>by have cc:=hj X (hdr.trans0 hX);go_simp) ?_
 simp only [Act.put,jA,jB,jC]
 refine wpG_one fun K hK=>?_
 go_simp
 refine (kI _ (hf0.trans0 hdr)).mono ?_
 rintro e w2 ⟨rfl,rfl⟩
 refine hK _ _ (Fr.refl _ _) ?_
 clear hK K
 iterate 1 (refine wpG_pure fun K hK=>?_;go_simp;refine hK _ ?_;clear hK K)
 refine wpG_end ?_
 have hdr2:=hdr.drew
 go_wp2_with fail
 refine wp_region_G (fun X=>Fr [] w1.drew.drew X) [(true,0),(true,1),(true,2),(true,3),(true,4),(true,5),(true,6),(true,7),(true,8),(true,9),(true,10),(true,11),(false,12),(true,13),(true,14),(true,15),(true,16),(true,17)] (by as_aux_lemma=>kernel_rfl) (by as_aux_lemma=>kernel_rfl) (Fr.refl _ _) ?_
 simp only [inOrder,jD,jE,jF,jG]
 refine wpG_val (.pointer (some ⟨jb,0,none⟩)) (by first | rfl | go_simp) (fun X hX=>by have cc:=hb X (hdr2.trans0 hX);go_simp) ?_
 simp only [Act.put,jA,jB,jC]
 iterate 2 (refine wpG_pure fun K hK=>?_;go_simp;refine hK _ ?_;clear hK K)
 refine wpG_val (.pointer (some ⟨cb,0,none⟩)) (by first | rfl | go_simp) (fun X hX=>by have cc:=hj X (hdr2.trans0 hX);go_simp) ?_
 simp only [Act.put,jA,jB,jC]
 refine wpG_val (.pointer (some ⟨jb,0,none⟩)) (by first | rfl | go_simp) (fun X hX=>by have cc:=hb X (hdr2.trans0 hX);go_simp) ?_
 simp only [Act.put,jA,jB,jC]
 iterate 2 (refine wpG_pure fun K hK=>?_;go_simp;refine hK _ ?_;clear hK K)
 refine wpG_val (strL s) (by first | rfl | go_simp) (fun X hX=>by have cc:=hj X (hdr2.trans0 hX);go_simp) ?_
 simp only [Act.put,jA,jB,jC]
 refine wpG_val (.pointer (some ⟨jb,0,none⟩)) (by first | rfl | go_simp) (fun X hX=>by have cc:=hb X (hdr2.trans0 hX);go_simp) ?_
 simp only [Act.put,jA,jB,jC]
 iterate 2 (refine wpG_pure fun K hK=>?_;go_simp;refine hK _ ?_;clear hK K)
 refine wpG_val (strL []) (by first | rfl | go_simp) (fun X hX=>by have cc:=hj X (hdr2.trans0 hX);go_simp) ?_
 simp only [Act.put,jA,jB,jC]
 refine wpG_one fun K hK=>?_
 go_simp
 refine (kB _ (hf0.trans0 hdr2)).mono ?_
 rintro e w2 ⟨v,rfl,hv,hf2⟩
 refine hK _ _ (hf2) ?_
 clear hK K
 iterate 5 (refine wpG_pure fun K hK=>?_;go_simp;refine hK _ ?_;clear hK K)
 refine wpG_end ?_
 have hF2:=hdr2.trans0 hf2
 have b2:=hb _ hF2
 have j2:=hj _ hF2
 obtain ⟨a,cap,rfl,hvl,_⟩:=SlF.open hv
 have kS:=iSize_calls w2 ((h.img c hcm (fun h=>h)).fr0 (hf0.trans0 hF2))
 rw [(hI c hcm).2.2] at kS
 clear kI kB
 go_wp2_with fail
 refine kS.mono ?_
 rintro e w3 ⟨rfl,rfl⟩
 clear kS
 have hall:∀t∈p,∃c,fK L t=some c:=fun t ht=>by
  obtain ⟨d,hd⟩:=hp.mem (List.mem_cons_of_mem _ ht)
  obtain ⟨c,hc,_⟩:=fK_of hd
  exact ⟨c,hc⟩
 have kH:=fun X (hX:Fr [] w1 X) t (k:Nat) (hk:k<n) c (hc:fK L t=some c)=>pHole_calls t n k w.heap.size jb s c (h.fr0 (hf0.trans0 hX)) hI hc hn hk (B0.fr0 hX) (hJ1.fr0 hX)
 obtain ⟨D,hD⟩:∃D,Hid (L.map (·.x)=D):=⟨_,hidIt rfl⟩
 rw [hD.out] at kH
 have hD':D=L.map (·.x):=hD.out.symm
 go_wp2_with fail
 go_loopw [8,10,51] (fun _ _ i wr=>∃k:Nat,k≤n∧i=.int .i64 (k:Int)∧Fr [] w2 wr∧Hid (∀m,m<k→kindD D s m=0→∀t∈p,kindD D t m=0)) (fun _ _ i _=>n - (intOf i).toNat)
 case atStart=>exact ⟨0,Nat.zero_le _,rfl,Fr.refl _ _,hidIt (fun m hm=>absurd hm (Nat.not_lt_zero _))⟩
 case round =>
  obtain ⟨k,hk,rfl,hF,hqt⟩:=hrel
  by_cases hlt:k<n
  case neg =>
   have hke:k=n:=by omega
   subst hke
   clear kH
   go_wp2
   go_ret2
   refine ⟨0,false,rfl,fun h=>(by cases h),fun _=>?_,(hf0.trans0 hF2).trans0 hF⟩
   rw [←hD']
   exact hqt.out
  generalize wr=wq at *
  go_wp2_with fail
  go_loopw [10,56] (fun _ i wr=>∃j:Nat,j≤p.length∧i=.int .i64 (j:Int)∧Fr [] wq wr∧Hid (kindD D s k=0→∀t∈p.take j,kindD D t k=0)) (fun _ i _=>p.length - (intOf i).toNat)
  case atStart=>exact ⟨0,Nat.zero_le _,rfl,Fr.refl _ _,hidIt (fun _ t ht=>by simp at ht)⟩
  case round =>
   obtain ⟨j,hj',rfl,hG,hqj⟩:=hrel
   by_cases hlj:j<p.length
   case neg =>
    have hje:j=p.length:=by omega
    subst hje
    have hq2:Hid (∀m,m<k+1→kindD D s m=0→∀t∈p,kindD D t m=0):=hidIt (fun m hm h0 t ht=>by
     by_cases e:m=k
     ·subst e
      have:=hqj.out h0
      rw [List.take_length] at this
      exact this t ht
     ·exact hqt.out m (by omega) h0 t ht)
    clear hqt hqj kH
    go_wp2
    go_roundw
    case rel=>exact ⟨k+1,by omega,by go_num,hF.trans0 hG,hq2⟩
    case measure=>simp [intOf];omega
   have hFG:=hF2.trans0 (hF.trans0 hG)
   obtain ⟨bn,on,rfl,hbn,dn⟩:=SlT.at (SlF.fr0 hv (hF.trans0 hG)) hlj
   have htm:p.getD j []∈p:=by rw [List.getD_eq_getElem?_getD,List.getElem?_eq_getElem hlj];exact List.getElem_mem hlj
   have htk:Hid (p.take (j+1)=p.take j++[p.getD j []]):=hidIt (by rw [List.take_succ_eq_append_getElem hlj,List.getD_eq_getElem?_getD,List.getElem?_eq_getElem hlj];rfl)
   obtain ⟨c',hc'⟩:=hall _ htm
   have b3:=hb _ hFG
   have j3:=hj _ hFG
   have kS1:=kH wr hFG s k hlt c hc
   have kT1:=fun X (hX:Fr [] wr X)=>kH X (hFG.trans0 hX) (p.getD j []) k hlt c' hc'
   generalize p.getD j []=t at *
   by_cases ha:kindD D s k=0
   case neg =>
    have hd1:decide (kindD D s k=0)=false:=decide_eq_false ha
    rw [hd1] at kS1
    have hq2:Hid (kindD D s k=0→∀t∈p.take (j+1),kindD D t k=0):=hidIt (fun h=>absurd h ha)
    clear hqj htk kT1 kH ha hd1
    go_wp2_with fail
    refine kS1.mono ?_
    rintro e w4 ⟨rfl,hf4⟩
    clear kS1 b3 j3 dn
    go_wp2
    go_roundw
    case rel=>exact ⟨j+1,by omega,by go_num,hG.trans0 hf4,hq2⟩
    case measure=>simp [intOf];omega
   have hd1:decide (kindD D s k=0)=true:=decide_eq_true ha
   rw [hd1] at kS1
   by_cases hbz:kindD D t k=0
   case pos =>
    have hd2:decide (kindD D t k=0)=true:=decide_eq_true hbz
    rw [hd2] at kT1
    have hq2:Hid (kindD D s k=0→∀t∈p.take (j+1),kindD D t k=0):=hidIt (fun h x hx=>by
     rw [htk.out,List.mem_append] at hx
     rcases hx with hx | hx
     ·exact hqj.out h x hx
     ·rw [List.mem_singleton.1 hx];exact hbz)
    clear hqj htk kH ha hd1 hd2 hbz
    go_wp2_with fail
    refine kS1.mono ?_
    rintro e w4 ⟨rfl,hf4⟩
    go_wp2_with fail
    refine (kT1 _ hf4).mono ?_
    rintro e w5 ⟨rfl,hf5⟩
    clear kS1 kT1 b3 j3 dn
    go_wp2
    go_roundw
    case rel=>exact ⟨j+1,by omega,by go_num,(hG.trans0 hf4).trans0 hf5,hq2⟩
    case measure=>simp [intOf];omega
   have hd2:decide (kindD D t k=0)=false:=decide_eq_false hbz
   rw [hd2] at kT1
   clear hqj htk kH ha hd1 hd2 hbz hqt
   go_wp2_with fail
   refine kS1.mono ?_
   rintro e w4 ⟨rfl,hf4⟩
   go_wp2_with fail
   refine (kT1 _ hf4).mono ?_
   rintro e w5 ⟨rfl,hf5⟩
   clear kS1 kT1 b3 j3 dn
   go_wp2
   go_ret2
   exact ⟨k,true,rfl,fun _=>hlt,fun h=>(by cases h),((hf0.trans0 (hF2.trans0 (hF.trans0 hG))).trans0 hf4).trans0 hf5⟩
end
end Go.Proofs.YtffnihooekbcnaaGreat
namespace Go.Proofs.YtffnihooekbcnaaGreat
open Go.RowKit Go.Maps
attribute [local go_sem] mapAt_alloc mapAt_setCell mapAt_drew mapAt_drewN cells_str store_str
section
variable {ib:Nat} {p:Pl} {M:Img}
theorem iBits_calls (w:World) (h:ImgW w ib p M):Calls Tryz.prog 96 #[.pointer (some ⟨ib,0,none⟩)] w fun e w'=>e=.returned (.int .i64 M.B)∧w=w':=by
 have b0:=h.blk.cell
 go_enter Tryz.func96,Tryz.ntmps96
 go_wp2
 go_ret
 exact ⟨rfl,rfl⟩
end
end Go.Proofs.YtffnihooekbcnaaGreat
namespace Go.Proofs.YtffnihooekbcnaaGreat
open Go.RowKit Go.Maps
attribute [local go_sem] mapAt_alloc mapAt_setCell mapAt_drew mapAt_drewN cells_str store_str eql_str neq_str guard_str len_str
section
variable {w w':World} {cb mb room:Nat} {L:List Cd}
def chJ (cb mb jb:Nat) (L:List Cd) (k:Nat):Prop:=chO cb mb L k∨k=jb
theorem StepO.more {w w':World} {o o':Nat→Prop} (h:StepO w o w' o') (jb:Nat):StepO w (fun k=>o k∨k=jb) w' (fun k=>o' k∨k=jb):=by
 obtain ⟨M,hf,hM⟩:=h.fr
 refine ⟨⟨M,hf,fun k hk hl=>.inl (hM k hk hl)⟩,fun k hk=>?_⟩
 rcases hk with hk | hk
 ·rcases h.new k hk with h1 | h1
  ·exact .inl (.inl h1)
  ·exact .inr h1
 ·exact .inl (.inr hk)
def pStepPost (w:World) (cb mb room jb n:Nat) (L:List Cd) (s:By) (p:List By) (c:Cd) (o:Bool) (e:Ending) (w':World):Prop :=
 (o=true∧e=.returned (.tuple #[.bool false,.int .i64 160])∧Fr [] w w') ∨
 (o=false∧∃(k:Nat) (p':Pl),k<n∧e=.returned (.tuple #[.bool false,.int .i64 (writeE c.x.M ((k*2:Nat):Int) (seenC (L.map (·.x)) 32 (s :: p) k) (belL (L.map (·.x)) n p)).1]) ∧
   ChG noEx w' cb mb 1 room (setK L s p' (writeE c.x.M ((k*2:Nat):Int) (seenC (L.map (·.x)) 32 (s :: p) k) (belL (L.map (·.x)) n p)).2)∧Blk w' jb (pullC cb s false) 153 ∧
   StepO w (chJ cb mb jb L) w' (chJ cb mb jb (setK L s p' (writeE c.x.M ((k*2:Nat):Int) (seenC (L.map (·.x)) 32 (s :: p) k) (belL (L.map (·.x)) n p)).2))∧¬chO cb mb (setK L s p' (writeE c.x.M ((k*2:Nat):Int) (seenC (L.map (·.x)) 32 (s :: p) k) (belL (L.map (·.x)) n p)).2) jb) ∨
 (o=false∧quietD (L.map (·.x)) n s p∧e=.returned (.tuple #[.bool true,.int .i64 0])∧ChG noEx w' cb mb 1 room (offK L s)∧Blk w' jb (pullC cb s true) 153∧StepO w (chJ cb mb jb L) w' (chJ cb mb jb (offK L s))∧¬chO cb mb (offK L s) jb)
theorem pOver_calls (jb:Nat) (s:By) (o:Bool) (hJ:Blk w jb (pullC cb s o) 153):Calls Tryz.prog 294 #[.pointer (some ⟨jb,0,none⟩)] w fun e w'=>e=.returned (.bool o)∧w=w':=by
 have c0:=hJ.cell
 unfold pullC at c0
 clear hJ
 go_enter Tryz.func294,Tryz.ntmps294
 go_wp2
 go_ret
 exact ⟨rfl,rfl⟩
theorem pStep_calls (s:By) (p:List By) (n jb:Nat) (c:Cd) (o:Bool) (h:ChG noEx w cb mb 1 room L) (hI:ImsK n L) (hp:IsPath (L.map (·.x)) s p) (hc:fK L s=some c) (hn:∀c∈L,c.nm.length≤maxLen) (hne:∀c∈L,c.nm≠[]) (hf16:L.length≤16) (hpa:∀d∈L,∃p,IsPath (L.map (·.x)) d.nm p∧p.length≤8)
 (hp8:p.length≤64) (hn2:n≤256) (hJ:Blk w jb (pullC cb s o) 153) (hjo:¬chO cb mb L jb):Calls Tryz.prog 295 #[.pointer (some ⟨jb,0,none⟩)] w (pStepPost w cb mb room jb n L s p c o):=by
 have hcm:=(nlFind_mem hc).1
 have hsl:s.length≤maxLen:=by rw [←(nlFind_mem hc).2];exact hn c hcm
 have hj:=fun X (hX:Fr [] w X)=>(hJ.fr0 hX).cell
 unfold pullC at hj
 have kI:=fun X (hX:Fr [] w X)=>chImage_calls s (h.fr0 hX) hsl
 simp only [hc] at kI
 have hdr:=(Fr.refl [] w).drew
 go_enter Tryz.func295,Tryz.ntmps295
 go_wp2_with fail
 refine wp_region_G (fun X=>Fr [] w.drew X) [(true,0),(true,1),(true,2),(true,3),(true,4),(true,5),(true,6),(true,7),(false,8),(true,9)] (by as_aux_lemma=>kernel_rfl) (by as_aux_lemma=>kernel_rfl) (Fr.refl _ _) ?_
 simp only [inOrder,jD,jE,jF,jG]
 iterate 3 (refine wpG_pure fun K hK=>?_;go_simp;refine hK _ ?_;clear hK K)
 refine wpG_val (.pointer (some ⟨cb,0,none⟩)) (by first | rfl | go_simp) (fun X hX=>by have cc:=hj X (hdr.trans0 hX);go_simp) ?_
 simp only [Act.put,jA,jB,jC]
 iterate 3 (refine wpG_pure fun K hK=>?_;go_simp;refine hK _ ?_;clear hK K)
 refine wpG_val (strL s) (by first | rfl | go_simp) (fun X hX=>by have cc:=hj X (hdr.trans0 hX);go_simp) ?_
 simp only [Act.put,jA,jB,jC]
 refine wpG_one fun K hK=>?_
 go_simp
 refine (kI _ hdr).mono ?_
 rintro e w2 ⟨rfl,rfl⟩
 refine hK _ _ (Fr.refl _ _) ?_
 clear hK K
 iterate 1 (refine wpG_pure fun K hK=>?_;go_simp;refine hK _ ?_;clear hK K)
 refine wpG_end ?_
 have j1:=hj _ hdr
 clear kI
 cases o with
 | true =>
   clear hj
   go_wp2
   go_ret2
   exact Or.inl ⟨rfl,rfl,hdr⟩
 | false =>
 have h1:=h.fr0 hdr
 have kN:=pNext_calls s p n jb c h1 hI hp hc hn hp8 hn2 (hJ.fr0 hdr)
 go_wp2_with fail
 refine kN.mono ?_
 rintro e w2 ⟨k,b,rfl,hbk,hbq,hf2⟩
 have hF2:=hdr.trans0 hf2
 have h2:=h.fr0 hF2
 have hJ2:=hJ.fr0 hF2
 clear kN
 cases b with
 | false =>
   have hqt:=hidIt (hbq rfl)
   have kR:=fun X (hX:Fr [] w2 X)=>chRebase_calls s c (h2.fr0 hX) hc hn hne hf16 hpa
   have hdr2:=(Fr.refl [] w2).drew
   have hJd:=hJ2.fr0 hdr2
   clear hj
   go_wp2_with fail
   refine wp_region_G (fun X=>Blk X jb (pullC cb s false) 153) [(true,0),(true,1),(true,2),(true,3),(true,4),(true,5),(true,6),(true,7),(true,8),(true,9),(true,10),(true,11),(false,12),(true,13)] (by as_aux_lemma=>kernel_rfl) (by as_aux_lemma=>kernel_rfl) (hJd) ?_
   simp only [inOrder,jD,jE,jF,jG]
   iterate 3 (refine wpG_pure fun K hK=>?_;go_simp;refine hK _ ?_;clear hK K)
   refine wpG_val (.pointer (some ⟨cb,0,none⟩)) (by first | rfl | go_simp) (fun X hX=>by have cc:=Blk.cell hX;unfold pullC at cc;go_simp) ?_
   simp only [Act.put,jA,jB,jC]
   iterate 3 (refine wpG_pure fun K hK=>?_;go_simp;refine hK _ ?_;clear hK K)
   refine wpG_val (strL s) (by first | rfl | go_simp) (fun X hX=>by have cc:=Blk.cell hX;unfold pullC at cc;go_simp) ?_
   simp only [Act.put,jA,jB,jC]
   iterate 3 (refine wpG_pure fun K hK=>?_;go_simp;refine hK _ ?_;clear hK K)
   refine wpG_val (strL []) (by first | rfl | go_simp) (fun X hX=>by have cc:=Blk.cell hX;unfold pullC at cc;go_simp) ?_
   simp only [Act.put,jA,jB,jC]
   refine wpG_one fun K hK=>?_
   go_simp
   refine (kR _ hdr2).mono ?_
   rintro e w3 ⟨rfl,h3,hs3⟩
   refine hK _ _ (hs3.blk hJd hjo) ?_
   clear hK K
   iterate 1 (refine wpG_pure fun K hK=>?_;go_simp;refine hK _ ?_;clear hK K)
   refine wpG_end ?_
   have hJ3:=hs3.blk hJd hjo
   have j3:=hJ3.cell
   have jf:=hJ3.frozen
   have jl:=hJ3.lt
   unfold pullC at j3
   have hset:Fr [jb] w3 (w3.setCell ⟨jb,3,none⟩ (.bool true)):=(Fr.refl [jb] w3).setCell (p:=⟨jb,3,none⟩) (.inl (by simp)) _
   have hjo3:¬chO cb mb (offK L s) jb:=hs3.out hjo hJd.lt
   have hB4:Blk (w3.setCell ⟨jb,3,none⟩ (.bool true)) jb (pullC cb s true) 153:=hJ3.setCell 3 (.bool true)
   have h4:ChG noEx (w3.setCell ⟨jb,3,none⟩ (.bool true)) cb mb 1 room (offK L s):=h3.fr hset (fun k hk hc=>hjo3 (by rw [List.mem_singleton.1 hk] at hc;exact hc))
   have hst:StepO w (chJ cb mb jb L) (w3.setCell ⟨jb,3,none⟩ (.bool true)) (chJ cb mb jb (offK L s)) :=
    ((StepO.fr0 (hF2.trans0 hdr2)).trans (hs3.more jb)).trans ⟨⟨[jb],hset,fun k hk _=>.inr (List.mem_singleton.1 hk)⟩,fun k hk=>.inl hk⟩
   have hfin:=hidIt (And.intro hB4 (And.intro h4 (And.intro hst hjo3)))
   clear hB4 h4 hst hset h3 hJ3 hs3 kR h2 h1 hJ2 hJd hjo3 h hI hp hn hne hpa
   go_wp2
   go_ret2
   exact Or.inr (Or.inr ⟨rfl,hqt.out,rfl,hfin.out.2.1,hfin.out.1,hfin.out.2.2⟩)
 | true =>
   have hkn:=hbk rfl
   have hdr2:=(Fr.refl [] w2).drew
   have hJd:=hJ2.fr0 hdr2
   have hd2:=h2.fr0 hdr2
   have kBt:=iBits_calls w2.drew (hd2.img c hcm (fun h=>h))
   rw [(hI c hcm).2.1] at kBt
   have kC:=chCluster_calls s p n k hd2 hI hp hn hp8 hn2
   have hview:viewK L n s p k=seenC (L.map (·.x)) 32 (s :: p) k:=by unfold viewK;rw [if_pos hkn]
   rw [hview] at kC
   unfold viewPost at kC
   obtain ⟨T,hT⟩:∃T,Hid (seenC (L.map (·.x)) 32 (s :: p) k=T):=⟨_,hidIt rfl⟩
   rw [hT.out] at kC
   have kW:=fun X (hX:Fr [] w2.drew X) v hv hfar=>chWrite_calls s p n c ((k*2:Nat):Int) v T (hd2.fr0 hX) hI hp hc hn hp8 hn2 hv hfar
   obtain ⟨K,hK⟩:∃K:Nat,Hid (k*2=K):=⟨_,hidIt rfl⟩
   rw [hK.out] at kW
   have hmul:(k:Int)*2=(K:Int):=by have:=hK.out;omega
   have hmw:IntKind.i64.wrap (K:Int)=(K:Int):=IntWalk.i64_in _ (by have:=hK.out;omega)
   have hnewP:∀y,w2.drew.heap.size≤y→c.p.r y=none:=fun y hy=>(hd2.img c hcm (fun h=>h)).new hy
   obtain ⟨r,hr⟩:∃r,Hid (writeE c.x.M (K:Int) T (belL (L.map (·.x)) n p)=r):=⟨_,hidIt rfl⟩
   rw [hr.out] at kW
   unfold chResPost at kW
   clear hj hview
   go_wp2_with fail
   refine wp_region_G (fun X=>Blk X jb (pullC cb s false) 153) [(true,0),(true,1),(true,2),(true,3),(true,4),(true,5),(true,6),(true,7),(true,8),(true,9),(true,12),(true,13),(true,14),(true,15),(true,16),(true,17),(true,18),(true,19),(true,20),(false,10),(true,11),(false,21),(false,22),(true,23),(true,24)] (by as_aux_lemma=>kernel_rfl) (by as_aux_lemma=>kernel_rfl) (hJd) ?_
   simp only [inOrder,jD,jE,jF,jG]
   iterate 3 (refine wpG_pure fun K hK=>?_;go_simp;refine hK _ ?_;clear hK K)
   refine wpG_val (.pointer (some ⟨cb,0,none⟩)) (by first | rfl | go_simp) (fun X hX=>by have cc:=Blk.cell hX;unfold pullC at cc;go_simp) ?_
   simp only [Act.put,jA,jB,jC]
   iterate 3 (refine wpG_pure fun K hK=>?_;go_simp;refine hK _ ?_;clear hK K)
   refine wpG_val (strL s) (by first | rfl | go_simp) (fun X hX=>by have cc:=Blk.cell hX;unfold pullC at cc;go_simp) ?_
   simp only [Act.put,jA,jB,jC]
   iterate 5 (refine wpG_pure fun K hK=>?_;go_simp;refine hK _ ?_;clear hK K)
   refine wpG_val (.pointer (some ⟨cb,0,none⟩)) (by first | rfl | go_simp) (fun X hX=>by have cc:=Blk.cell hX;unfold pullC at cc;go_simp) ?_
   simp only [Act.put,jA,jB,jC]
   iterate 3 (refine wpG_pure fun K hK=>?_;go_simp;refine hK _ ?_;clear hK K)
   refine wpG_val (strL s) (by first | rfl | go_simp) (fun X hX=>by have cc:=Blk.cell hX;unfold pullC at cc;go_simp) ?_
   simp only [Act.put,jA,jB,jC]
   iterate 1 (refine wpG_pure fun K hK=>?_;go_simp;refine hK _ ?_;clear hK K)
   refine wpG_one fun K hK=>?_
   go_simp
   refine (kBt).mono ?_
   rintro e w3 ⟨rfl,rfl⟩
   refine hK _ _ (hJd) ?_
   clear hK K
   iterate 1 (refine wpG_pure fun K hK=>?_;go_simp;refine hK _ ?_;clear hK K)
   refine wpG_one fun K hK=>?_
   go_simp
   refine (kC).mono ?_
   rintro e w4 ⟨v,rfl,hv,_,hvn,hf4⟩
   refine hK _ _ (hJd.fr0 hf4) ?_
   clear hK K
   refine wpG_one fun K' hK'=>?_
   go_simp
   refine (kW w4 hf4 v hv (fun _ y hy=>hnewP y (hvn y hy))).mono ?_
   rintro e w5 ⟨i,rfl,rfl,p',h5,hs5⟩
   have hJ5:=hs5.blk (hJd.fr0 hf4) hjo
   refine hK' _ _ hJ5 ?_
   clear hK' K'
   iterate 2 (refine wpG_pure fun K hK=>?_;go_simp;refine hK _ ?_;clear hK K)
   refine wpG_end ?_
   have hfin:=hidIt (And.intro h5 (And.intro hJ5 (And.intro (((StepO.fr0 (hF2.trans0 (hdr2.trans0 hf4))).trans (hs5.more jb)):StepO w (chJ cb mb jb L) w5 (chJ cb mb jb (setK L s p' r.2))) (hs5.out hjo (hJd.fr0 hf4).lt))))
   clear h5 hJ5 hs5 kW kC kBt hv hvn hd2 hJd h2 h1 hJ2 h hI hp hn hne hpa hnewP
   go_wp2
   go_ret2
   refine Or.inr (Or.inl ⟨rfl,k,p',hkn,?_,?_⟩)
   ·rw [hT.out,hK.out,hr.out]
    rfl
   ·rw [hT.out,hK.out,hr.out]
    exact hfin.out
end
def mergeC (cb mp:Nat) (top base:By) (over:Bool):List Value:=[.pointer (some ⟨cb,0,none⟩),strL top,strL base,.map (some mp),.bool over]
def SetW (w:World) (mp:Nat) (l:List Bool):Prop:=∃es clock,mapAt w mp=some (es,clock)∧IsM Tryz.prog 3 es clock (bitM l)
theorem SetW.fr {w w':World} {mp:Nat} {l:List Bool} {M:List Nat} (h:SetW w mp l) (hf:Fr M w w') (hm:mp ∉ M):SetW w' mp l:=by
 obtain ⟨es,c,h1,h2⟩:=h
 exact ⟨es,c,mapAt_fr h1 hf hm,h2⟩
theorem SetW.fr0 {w w':World} {mp:Nat} {l:List Bool} (h:SetW w mp l) (hf:Fr [] w w'):SetW w' mp l:=h.fr hf (by simp)
theorem SetW.lt {w:World} {mp:Nat} {l:List Bool} (h:SetW w mp l):mp<w.heap.size:=by obtain ⟨es,c,h1,_⟩:=h;exact mapAt_lt h1
theorem SetW.drew {w:World} {mp:Nat} {l:List Bool} (h:SetW w mp l):SetW w.drew mp l:=h.fr0 (Fr.refl [] w).drew
theorem SetW.put {w:World} {mp:Nat} {l:List Bool} (h:SetW w mp l) {k:Nat} (hk:k<l.length) (hl:l.length≤1000000):∃w',(Instr.mapUpdate 138 (.map (some mp)) (.int .i64 (k:Int)) (.int .i64 1)).run Tryz.prog w=.ok () w'∧SetW w' mp (l.set k true)∧Fr [mp] w w':=by
 obtain ⟨es,c,hm,hi⟩:=h
 obtain ⟨es',c',hr,hi'⟩:=run_mapUpdate_isM (P:=Tryz.prog) Tryz.underlying138 bKeyInt hi (bKeyI (k:=(k:Int)) (by omega) (by omega)) (.int .i64 1) w hm
 refine ⟨_,hr,⟨es',c',mapAt_putMap (mapAt_lt hm) es' c',?_⟩,putMap_fr w mp es' c'⟩
 have:=bitM_set (l:=l) true hk
 rw [if_pos rfl] at this
 rw [this]
 exact hi'
structure MgW (w:World) (jb cb mp:Nat) (top base:By) (l:List Bool) (over:Bool):Prop where
 blk:Blk w jb (mergeC cb mp top base over) 148
 left:SetW w mp l
def kindsL (D:List Dk) (n:Nat) (s:By) (m:Nat):List Bool:=(List.range n).map fun k=>decide (k<m) && !decide (kindD D s k=0)
theorem kindsL_len (D:List Dk) (n:Nat) (s:By) (m:Nat):(kindsL D n s m).length=n:=by simp [kindsL]
theorem kindsL_at {D:List Dk} {n:Nat} {s:By} {m k:Nat} (hk:k<n):(kindsL D n s m).getD k false=(decide (k<m) && !decide (kindD D s k=0)):=by
 unfold kindsL
 rw [List.getD_eq_getElem?_getD,List.getElem?_eq_getElem (by simpa using hk)]
 simp
theorem kindsL_zero (D:List Dk) (n:Nat) (s:By):kindsL D n s 0=List.replicate n false:=by
 refine List.ext_getElem (by simp [kindsL]) fun i h1 h2=>?_
 simp [kindsL]
theorem kindsL_succ (D:List Dk) (n:Nat) (s:By) {m:Nat} (hm:m<n):kindsL D n s (m+1)=if kindD D s m=0 then kindsL D n s m else (kindsL D n s m).set m true:=by
 refine List.ext_getElem (by split <;> simp [kindsL]) fun i h1 h2=>?_
 have hi:i<n:=by simpa [kindsL] using h1
 by_cases e:i=m
 ·subst e
  split
  ·rename_i h;simp [kindsL,h]
  ·rename_i h;simp [kindsL,h]
 ·have:decide (i<m+1)=decide (i<m):=by
   by_cases h:i<m
   ·rw [decide_eq_true h,decide_eq_true (by omega)]
   ·rw [decide_eq_false h,decide_eq_false (by omega)]
  split
  ·simp [kindsL,this]
  ·rw [List.getElem_set_ne (fun h=>e h.symm)]
   simp [kindsL,this]
section
variable {w w':World} {cb mb room:Nat} {L:List Cd}
def mBeginPost (w:World) (cb:Nat) (D:List Dk) (n:Nat) (s:By) (p:List By) (e:Ending) (w':World):Prop :=
 (∃code:Int,code≠0∧e=.returned (.tuple #[.pointer none,.int .i64 code])∧Fr [] w w') ∨
 (∃b r jb mp,p=b :: r∧e=.returned (.tuple #[.pointer (some ⟨jb,0,none⟩),.int .i64 0])∧MgW w' jb cb mp s b (kindsL D n s n) false∧w.heap.size≤jb∧w.heap.size≤mp∧Fr [] w w')
theorem mBegin_calls (s:By) (p:List By) (n:Nat) (c:Cd) (h:ChG noEx w cb mb 1 room L) (hI:ImsK n L) (hp:IsPath (L.map (·.x)) s p) (hc:fK L s=some c) (hn:∀c∈L,c.nm.length≤maxLen) (hf16:L.length≤16) (hn2:n≤256) :
 Calls Tryz.prog 48 #[.pointer (some ⟨cb,0,none⟩),strL s] w (mBeginPost w cb (L.map (·.x)) n s p):=by
 have hcm:=(nlFind_mem hc).1
 have hsl:s.length≤maxLen:=by rw [←(nlFind_mem hc).2];exact hn c hcm
 have kBk:=chBacking_calls s h hsl
 rw [hc] at kBk
 have hbk:c.x.bk=nxt p:=by
  obtain ⟨d,hd,hdb⟩:=hp.find
  rw [fK_D,hc] at hd
  cases hd
  rw [←nxt_head]
  exact hdb
 simp only [hbk] at kBk
 have he:Value.string ⟨#[]⟩=strL []:=rfl
 cases p with
 | nil =>
   rw [nxt_nil] at kBk
   go_enter Tryz.func48,Tryz.ntmps48
   rw [he]
   go_wp2_with fail
   refine kBk.mono ?_
   rintro e w1 ⟨rfl,hw1⟩
   rw [hw1]
   clear hw1 w1 kBk
   go_wp2
   go_ret2
   exact Or.inl ⟨140,by decide,rfl,Fr.refl _ _⟩
 | cons b r =>
 rw [nxt_cons] at kBk
 have hb0:b≠[]:=hp.nonil b List.mem_cons_self
 obtain ⟨d,hd⟩:=hp.mem (List.mem_cons_of_mem _ List.mem_cons_self:b∈s :: b :: r)
 obtain ⟨cB,hcB,_⟩:=fK_of hd
 have hbm:=(nlFind_mem hcB).1
 have hbl:b.length≤maxLen:=by rw [←(nlFind_mem hcB).2];exact hn cB hbm
 have kU:=chUsers_calls b h hn hf16
 have kIb:=fun X (hX:Fr [] w X)=>chImage_calls b (h.fr0 hX) hbl
 have kIs:=fun X (hX:Fr [] w X)=>chImage_calls s (h.fr0 hX) hsl
 simp only [hcB] at kIb
 simp only [hc] at kIs
 have kSb:=fun X (hX:Fr [] w X)=>iSize_calls X ((h.img cB hbm (fun h=>h)).fr0 hX)
 have kSs:=fun X (hX:Fr [] w X)=>iSize_calls X ((h.img c hcm (fun h=>h)).fr0 hX)
 have kKs:=fun (k:Nat) X (hX:Fr [] w X)=>iKind_calls (k:Int) X ((h.img c hcm (fun h=>h)).fr0 hX)
 simp only [(hI cB hbm).2.2] at kSb
 simp only [(hI c hcm).2.2] at kSs
 simp only [tget_nat,←kindD_of hc] at kKs
 obtain ⟨D,hD⟩:∃D,Hid (L.map (·.x)=D):=⟨_,hidIt rfl⟩
 rw [hD.out] at kKs ⊢
 have hb':decide (b=[])=false:=decide_eq_false hb0
 clear h hI hp hn hd hD hbk
 obtain ⟨S,hS⟩:∃S,Hid (strL b=Value.string S):=⟨_,hidIt rfl⟩
 obtain ⟨T,hT⟩:∃T,Hid (strL s=Value.string T):=⟨_,hidIt rfl⟩
 have hq:binOp .eql 9 (.string S) (strL [])=pure (.bool false):=by rw [←hS.out,eql_str,hb']
 have hg:∀(op:BinOp) (x y:Operand) (w:World),(eqGuard op 9 x y (.string S) (strL [])).run Tryz.prog w=.ok () w:=fun op x y w=>by rw [←hS.out];exact guard_str _ _ _ _ _ _
 rw [hS.out] at kBk kU kIb
 rw [hT.out] at kBk kIs ⊢
 go_enter Tryz.func48,Tryz.ntmps48
 rw [he]
 go_wp2_with fail
 refine kBk.mono ?_
 rintro e w1 ⟨rfl,hw1⟩
 rw [hw1]
 clear hw1 w1 kBk
 go_wp2_with fail
 refine kU.mono ?_
 rintro e w2 ⟨v,rfl,hv,hf2⟩
 obtain ⟨av,cv,rfl,_⟩:=SlF.open hv
 generalize usersL L b=U at *
 by_cases hU:1<U.length
 case pos =>
  have hU':(1:Int)<(U.length:Int):=by omega
  clear kU kIb kIs kSb kSs kKs hv
  go_wp2
  go_ret2
  exact Or.inl ⟨143,by decide,rfl,hf2⟩
 have hU':¬(1:Int)<(U.length:Int):=by omega
 clear kU hv
 go_wp2_with fail
 refine (kIb _ hf2).mono ?_
 rintro e w3 ⟨rfl,hw3⟩
 rw [hw3]
 clear hw3 w3 kIb
 go_wp2_with fail
 refine (kSb _ hf2).mono ?_
 rintro e w3 ⟨rfl,rfl⟩
 clear kSb
 go_wp2_with fail
 refine (kIs _ hf2).mono ?_
 rintro e w3 ⟨rfl,hw3⟩
 rw [hw3]
 clear hw3 w3
 go_wp2_with fail
 refine (kSs _ hf2).mono ?_
 rintro e w3 ⟨rfl,rfl⟩
 have hmm:=@run_makeMap Tryz.prog
 go_wp2_with fail
 obtain ⟨w3,hw3⟩:∃w3,Hid (((w2.alloc (Obj.map #[] 0)).alloc (Obj.cells #[.pointer (some ⟨cb,0,none⟩),.string T,.string S,.map (some w2.heap.size),.bool false] 148))=w3):=⟨_,hidIt rfl⟩
 obtain ⟨jb,hjb⟩:∃jb,Hid (w2.heap.size+1=jb):=⟨_,hidIt rfl⟩
 obtain ⟨mp,hmp⟩:∃mp,Hid (w2.heap.size=mp):=⟨_,hidIt rfl⟩
 have hz:=hf2.size
 have hf3:Fr [] w w3:=by rw [←hw3.out];exact (hf2.alloc _).alloc _
 have hj3:Blk w3 jb (mergeC cb mp s b false) 148:=by
  have x:=Blk.new (w2.alloc (Obj.map #[] 0)) [.pointer (some ⟨cb,0,none⟩),.string T,.string S,.map (some w2.heap.size),.bool false] 148
  rw [World.size_alloc,hjb.out] at x
  unfold mergeC
  rw [←hw3.out,←hmp.out,hS.out,hT.out]
  exact x
 have hm3:SetW w3 mp (kindsL D n s 0):=by
  rw [kindsL_zero,←hw3.out,←hmp.out]
  exact ⟨#[],0,by rw [mapAt_alloc _ (by simp),mapAt_some];exact heap_alloc_new w2 _,by rw [bitM_empty];exact IsM.empty⟩
 have hne:jb≠mp:=by have:=hjb.out;have:=hmp.out;omega
 have hjz:w.heap.size≤jb:=by have:=hjb.out;omega
 have hmz:w.heap.size≤mp:=by have:=hmp.out;omega
 rw [hw3.out,hjb.out]
 clear hw3 hjb hmp hf2 hz
 refine (kIs _ hf3).mono ?_
 rintro e w4 ⟨rfl,hw4⟩
 rw [hw4]
 clear hw4 w4
 go_wp2_with fail
 refine (kSs _ hf3).mono ?_
 rintro e w4 ⟨rfl,rfl⟩
 clear kSs hmm
 go_wp2_with fail
 have hfin:=hidIt (And.intro hj3 (And.intro hne (And.intro hjz hmz)))
 go_loopw [9,49] (fun _ i wr=>∃k:Nat,k≤n∧i=.int .i64 (k:Int)∧SetW wr mp (kindsL D n s k)∧Fr [] w wr∧Blk wr jb (mergeC cb mp s b false) 148) (fun _ i _=>n - (intOf i).toNat)
 case atStart=>exact ⟨0,Nat.zero_le _,rfl,hm3,hf3,hj3⟩
 clear hm3 hf3 hj3
 obtain ⟨k,hk,rfl,hset,hF,hJ⟩:=hrel
 by_cases hlt:k<n
 case neg =>
  have hke:k=n:=by omega
  have hlt':¬(k:Int)<(n:Int):=by omega
  have hset':Hid (SetW wr mp (kindsL D n s n)):=hidIt (by rw [hke] at hset;exact hset)
  clear hset kIs kKs hke
  go_wp2
  go_ret2
  exact Or.inr ⟨b,r,jb,mp,rfl,rfl,⟨hJ,hset'.out⟩,hfin.out.2.2.1,hfin.out.2.2.2,hF⟩
 have hlt':(k:Int)<(n:Int):=by omega
 have hjc:=hJ.cell
 unfold mergeC at hjc
 go_wp2_with fail
 refine (kIs _ hF).mono ?_
 rintro e w4 ⟨rfl,hw4⟩
 rw [hw4]
 clear hw4 w4
 go_wp2_with fail
 refine (kKs k _ hF).mono ?_
 rintro e w4 ⟨rfl,hf4⟩
 have hF4:=hF.trans0 hf4
 have hJ4:=hJ.fr0 hf4
 have hset4:=hset.fr0 hf4
 clear hJ hjc hset kIs kKs
 have hjc:=hJ4.cell
 unfold mergeC at hjc
 have hks:=kindsL_succ D n s hlt
 have hwr:IntKind.i64.wrap ((k:Int)+1)=((k+1:Nat):Int):=IntWalk.i64_in _ (by omega)
 by_cases hz:kindD D s k=0
 case pos =>
  have hzb:(kindD D s k == 0)=true:=by simpa using hz
  rw [if_pos hz] at hks
  have hnx:=hidIt (And.intro hset4 hks)
  clear hset4 hks hz
  go_wp2
  case' roundEnd=>exact ⟨⟨k+1,by omega,rfl,by rw [hnx.out.2];exact hnx.out.1,hF4,hJ4⟩,by show n - ((k:Int)+1).toNat<n - ((k:Nat):Int).toNat;omega⟩
 have hzb:(kindD D s k == 0)=false:=by simpa using hz
 rw [if_neg hz] at hks
 obtain ⟨w5,hup,hset5,hf5⟩:=hset4.put (k:=k) (by rw [kindsL_len];exact hlt) (by rw [kindsL_len];omega)
 have hJ5:=hJ4.fr hf5 (by simpa using hfin.out.2.1)
 have hF5:Fr [] w w5:=hF4.trans1 hf5 hfin.out.2.2.2
 have hnx:=hidIt (And.intro hset5 hks)
 clear hset4 hset5 hks hz
 go_wp2_with fail
 exact ⟨⟨k+1,by omega,rfl,by rw [hnx.out.2];exact hnx.out.1,hF5,hJ5⟩,by show n - ((k:Int)+1).toNat<n - ((k:Nat):Int).toNat;omega⟩
end
end Go.Proofs.YtffnihooekbcnaaGreat
