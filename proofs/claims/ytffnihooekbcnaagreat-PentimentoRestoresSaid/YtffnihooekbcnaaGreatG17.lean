/-
  Package merge: Over, Wrote.
-/
import Derived.Test.YtffnihooekbcnaaGreatG16
set_option maxRecDepth 100000
set_option maxHeartbeats 6400000
namespace Go.Proofs.YtffnihooekbcnaaGreat
open Go.RowKit Go.Maps
attribute [local go_sem] mapAt_alloc mapAt_setCell mapAt_drew mapAt_drewN cells_str store_str eql_str neq_str guard_str len_str
def markL (l:List Bool) (f:Nat→Bool) (m:Nat):List Bool:=(List.range l.length).map fun k=>l.getD k false || (decide (k<m) && f k)
theorem markL_len (l:List Bool) (f:Nat→Bool) (m:Nat):(markL l f m).length=l.length:=by simp [markL]
theorem markL_at {l:List Bool} {f:Nat→Bool} {m k:Nat} (hk:k<l.length):(markL l f m).getD k false=(l.getD k false || (decide (k<m) && f k)):=by
 unfold markL
 rw [List.getD_eq_getElem?_getD,List.getElem?_eq_getElem (by simpa using hk)]
 simp
theorem markL_zero (l:List Bool) (f:Nat→Bool):markL l f 0=l:=by
 refine List.ext_getElem (by simp [markL]) fun i h1 h2=>?_
 simp [markL,List.getElem?_eq_getElem h2]
theorem markL_succ (l:List Bool) (f:Nat→Bool) {m:Nat} (hm:m<l.length):markL l f (m+1)=if f m=true then (markL l f m).set m true else markL l f m:=by
 refine List.ext_getElem (by split <;> simp [markL]) fun i h1 h2=>?_
 have hi:i<l.length:=by simpa [markL] using h1
 by_cases e:i=m
 ·subst e
  split
  ·rename_i h;simp [markL,h]
  ·rename_i h
   have h':f i=false:=by simpa using h
   simp [markL,h']
 ·have:decide (i<m+1)=decide (i<m):=by
   by_cases h:i<m
   ·rw [decide_eq_true h,decide_eq_true (by omega)]
   ·rw [decide_eq_false h,decide_eq_false (by omega)]
  split
  ·rw [List.getElem_set_ne (fun h=>e h.symm)]
   simp [markL,this]
  ·simp [markL,this]
def touch (a:Int) (g:Nat) (k:Nat):Bool:=decide (a<2*(k:Int)+2) && decide (2*(k:Int) - (g:Int)<a)
section
variable {w w':World} {cb mb room jb mp:Nat} {L:List Cd} {s b:By} {l:List Bool} {o:Bool}
theorem MgW.fr0 (h:MgW w jb cb mp s b l o) (hf:Fr [] w w'):MgW w' jb cb mp s b l o:=⟨h.blk.fr0 hf,h.left.fr0 hf⟩
theorem mOver_calls (h:MgW w jb cb mp s b l o):Calls Tryz.prog 283 #[.pointer (some ⟨jb,0,none⟩)] w fun e w'=>e=.returned (.bool o)∧w=w':=by
 have c:=h.blk.cell
 unfold mergeC at c
 go_enter Tryz.func283,Tryz.ntmps283
 go_wp2
 go_ret
 exact ⟨rfl,rfl⟩
theorem mWrote_calls (n:Nat) (c:Cd) (a:Int) (g:Nat) (h:ChG noEx w cb mb 1 room L) (hI:ImsK n L) (hc:fK L s=some c) (hn:∀c∈L,c.nm.length≤maxLen) (hn2:n≤256) (hg:g≤maxLen)
 (hM:MgW w jb cb mp s b l false) (hl:l.length=n) (hne:jb≠mp) (hmo:¬chO cb mb L mp) :
 Calls Tryz.prog 77 #[.pointer (some ⟨jb,0,none⟩),.int .i64 a,.int .i64 (g:Int)] w fun e w'=>e=.returned (.tuple #[])∧MgW w' jb cb mp s b (if g=0 then l else markL l (touch a g) n) false∧Fr [mp] w w':=by
 have hcm:=(nlFind_mem hc).1
 have hsl:s.length≤maxLen:=by rw [←(nlFind_mem hc).2];exact hn c hcm
 have hj:=fun X (hX:Fr [] w X)=>(hM.fr0 hX).blk.cell
 unfold mergeC at hj
 have kI:=fun X (hX:Fr [] w X)=>chImage_calls s (h.fr0 hX) hsl
 simp only [hc] at kI
 have hdr:=(Fr.refl [] w).drew
 obtain ⟨R,hR⟩:∃R,Hid ((if g=0 then l else markL l (touch a g) n)=R):=⟨_,hidIt rfl⟩
 rw [hR.out]
 go_enter Tryz.func77,Tryz.ntmps77
 go_wp2_with fail
 refine wp_region_G (fun X=>Fr [] w.drew X) [(true,0),(true,1),(true,2),(true,3),(true,4),(true,5),(true,6),(true,7),(false,8),(true,9)] (by as_aux_lemma=>kernel_rfl) (by as_aux_lemma=>kernel_rfl) (Fr.refl _ _) ?_
 simp only [inOrder,jD,jE,jF,jG]
 iterate 3 (refine wpG_pure fun K hK=>?_;go_simp;refine hK _ ?_;clear hK K)
 refine wpG_val (.pointer (some ⟨cb,0,none⟩)) (by first | rfl | go_simp) (fun X hX=>by have cc:=hj X (hdr.trans0 hX);go_simp) ?_
 simp only [Act.put,jA,jB,jC]
 iterate 3 (refine wpG_pure fun K hK=>?_;go_simp;refine hK _ ?_;clear hK K)
 refine wpG_val (strL s) (by first | rfl | go_simp) (fun X hX=>by have cc:=hj X (hdr.trans0 hX);go_simp) ?_
 simp only [Act.put,jA,jB,jC]
 refine wpG_one fun K hK=>?_
 go_simp
 refine (kI _ hdr).mono ?_
 rintro e w2 ⟨rfl,rfl⟩
 refine hK _ _ (Fr.refl _ _) ?_
 clear hK K
 iterate 1 (refine wpG_pure fun K hK=>?_;go_simp;refine hK _ ?_;clear hK K)
 refine wpG_end ?_
 have j1:=hj _ hdr
 clear kI hj
 by_cases hg0:g=0
 case pos =>
  have hRl:R=l:=by rw [←hR.out,if_pos hg0]
  have hlt:(g:Int)<1:=by omega
  have hfin:Hid (MgW w.drew jb cb mp s b R false):=hidIt (by rw [hRl];exact hM.fr0 hdr)
  clear hM h hI hg0 hR hRl
  go_wp2
  exact bodyPost_ret (results_none rfl _ _ _) rfl ⟨rfl,hfin.out,hdr.weak⟩
 have hRl:Hid (R=markL l (touch a g) n):=hidIt (by rw [←hR.out,if_neg hg0])
 clear hR
 have hlt:¬(g:Int)<1:=by omega
 have h1:=h.fr0 hdr
 have hI1:=h1.img c hcm (fun h=>h)
 have kS:=iSize_calls _ hI1
 rw [(hI c hcm).2.2] at kS
 have hM1:=hM.fr0 hdr
 have hbl:=(hI c hcm).2.1
 have hout:∀X,Fr [mp] w.drew X→ImgW X c.ib c.p c.x.M:=fun X hX=>(h1.fr hX (fun k hk=>by rw [List.mem_singleton.1 hk];exact hmo)).img c hcm (fun h=>h)
 have kB:=fun X (hX:Fr [mp] w.drew X)=>iBits_calls X (hout X hX)
 simp only [hbl] at kB
 generalize w.drew=wd at *
 clear h hI h1 hI1 hout hM
 go_wp2_with fail
 refine kS.mono ?_
 rintro e w2 ⟨rfl,rfl⟩
 clear kS
 go_wp2_with fail
 have hfin:=hidIt (And.intro hne hl)
 go_loopw [7,8,32] (fun _ _ i wr=>∃k:Nat,k≤n∧i=.int .i64 (k:Int)∧MgW wr jb cb mp s b (markL l (touch a g) k) false∧Fr [mp] wd wr) (fun _ _ i _=>n - (intOf i).toNat)
 case atStart=>exact ⟨0,Nat.zero_le _,rfl,by rw [markL_zero];exact hM1,Fr.refl _ _⟩
 clear hM1
 obtain ⟨k,hk,rfl,hMr,hF⟩:=hrel
 by_cases hlt2:k<n
 case neg =>
  have hlt':¬(k:Int)<(n:Int):=by omega
  have hset':Hid (MgW wr jb cb mp s b R false):=hidIt (by rw [show k=n by omega] at hMr;rw [hRl.out];exact hMr)
  clear hMr kB
  go_wp2
  exact bodyPost_end (v:=.tuple #[]) (results_none rfl _ _ _) rfl ⟨rfl,hset'.out,hdr.weak.trans' hF⟩
 have hlt':(k:Int)<(n:Int):=by omega
 go_wp2_with fail
 refine (kB _ hF).mono ?_
 rintro e w4 ⟨rfl,rfl⟩
 go_wp2_with fail
 refine (kB _ hF).mono ?_
 rintro e w4 ⟨rfl,rfl⟩
 have hw1:IntKind.i64.wrap ((k:Int)*2+2)=(k:Int)*2+2:=IntWalk.i64_in _ (by omega)
 have hw2:IntKind.i64.wrap ((k:Int)*2 - (g:Int))=(k:Int)*2 - (g:Int):=IntWalk.i64_in _ (by unfold maxLen at hg;omega)
 have hms:=markL_succ l (touch a g) (m:=k) (by omega)
 have hml:=markL_len l (touch a g) k
 have hblk:=hMr.blk
 have hlf:=hMr.left
 have hjc:=hblk.cell
 unfold mergeC at hjc
 clear hMr kB
 by_cases hA:a<(k:Int)*2+2
 case neg =>
  have ht:touch a g k=false:=by unfold touch;rw [decide_eq_false (by omega)];rfl
  rw [ht] at hms
  have hnx:=hidIt (And.intro hms (And.intro hblk hlf))
  clear hms hblk hlf hml ht
  go_wp2_with fail
  exact ⟨⟨k+1,by omega,rfl,by rw [hnx.out.1,if_neg (by decide)];exact ⟨hnx.out.2.1,hnx.out.2.2⟩,hF⟩,by show n - ((k:Int)+1).toNat<n - ((k:Nat):Int).toNat;omega⟩
 by_cases hB:(k:Int)*2 - (g:Int)<a
 case neg =>
  have ht:touch a g k=false:=by unfold touch;rw [decide_eq_false (p:=2*(k:Int) - (g:Int)<a) (by omega),Bool.and_false]
  rw [ht] at hms
  have hnx:=hidIt (And.intro hms (And.intro hblk hlf))
  clear hms hblk hlf hml ht
  go_wp2_with fail
  exact ⟨⟨k+1,by omega,rfl,by rw [hnx.out.1,if_neg (by decide)];exact ⟨hnx.out.2.1,hnx.out.2.2⟩,hF⟩,by show n - ((k:Int)+1).toNat<n - ((k:Nat):Int).toNat;omega⟩
 have ht:touch a g k=true:=by unfold touch;rw [decide_eq_true (by omega),decide_eq_true (by omega)];rfl
 rw [ht,if_pos rfl] at hms
 obtain ⟨w5,hup,hset5,hf5⟩:=hlf.put (k:=k) (by omega) (by omega)
 have hB5:=hblk.fr hf5 (by simpa using hfin.out.1)
 have hnx:=hidIt (And.intro hms (And.intro hB5 hset5))
 have hF5:=hF.trans' hf5
 clear hms hblk hlf hml ht hB5 hset5
 go_wp2_with fail
 exact ⟨⟨k+1,by omega,rfl,by rw [hnx.out.1];exact ⟨hnx.out.2.1,hnx.out.2.2⟩,hF5⟩,by show n - ((k:Int)+1).toNat<n - ((k:Nat):Int).toNat;omega⟩
end
theorem run_clear_map {P:Program} {T E K ty:TypeId} (ht:P.underlying T=some (.map K E)) (w:World) {b:Nat} {es:Array MapEntry} {clock:Nat} (hb:mapAt w b=some (es,clock)) :
 (Builtin.clear_ #[T] ty #[.map (some b)]).run P w=.ok (.tuple #[]) (putMap w b #[] clock):=by
 have hb':=mapAt_some.1 hb
 simp [Builtin.clear_,run_underlying ht,getObj,setObj,Sem.run,hb',Result.andThen,putMap]
section
variable {w w':World} {cb mb room jb mp:Nat} {L:List Cd} {s b:By} {l:List Bool} {o:Bool}
theorem mEnd_calls (h:MgW w jb cb mp s b l o) (hne:jb≠mp):Calls Tryz.prog 285 #[.pointer (some ⟨jb,0,none⟩)] w fun e w'=>e=.returned (.tuple #[])∧MgW w' jb cb mp s b (List.replicate l.length false) true∧Fr [jb,mp] w w':=by
 have c:=h.blk.cell
 have cf:=h.blk.frozen
 have cl:=h.blk.lt
 obtain ⟨es,clock,hm,hi⟩:=h.left
 have hset:Fr [jb] w (w.setCell ⟨jb,4,none⟩ (.bool true)):=(Fr.refl [jb] w).setCell (p:=⟨jb,4,none⟩) (.inl (by simp)) _
 have hB:Blk (w.setCell ⟨jb,4,none⟩ (.bool true)) jb (mergeC cb mp s b true) 148:=h.blk.setCell 4 (.bool true)
 have hm1:mapAt (w.setCell ⟨jb,4,none⟩ (.bool true)) mp=some (es,clock):=mapAt_fr hm hset (by simpa using fun h=>hne h.symm)
 have hcl:=fun ty=>run_clear_map (P:=Tryz.prog) (T:=138) (ty:=ty) Tryz.underlying138 (w.setCell ⟨jb,4,none⟩ (.bool true)) hm1
 have hpf:=putMap_fr (w.setCell ⟨jb,4,none⟩ (.bool true)) mp #[] clock
 have hset2:SetW (putMap (w.setCell ⟨jb,4,none⟩ (.bool true)) mp #[] clock) mp (List.replicate l.length false) :=
  ⟨#[],clock,mapAt_putMap (mapAt_lt hm1) _ _,by rw [bitM_empty];exact ⟨by simp,by simp,by simp,by simp,by simp⟩⟩
 have hB2:=hB.fr hpf (by simpa using hne)
 have hF2:Fr [jb,mp] w (putMap (w.setCell ⟨jb,4,none⟩ (.bool true)) mp #[] clock):=(hset.mono (M:=[jb,mp]) (fun x h _=>by simp at h;simp [h])).trans' (hpf.mono (fun x h _=>by simp at h;simp [h]))
 have hfin:=hidIt (And.intro hB2 (And.intro hset2 hF2))
 unfold mergeC at c
 clear hB hset h hB2 hset2 hF2 hpf
 go_enter Tryz.func285,Tryz.ntmps285
 go_wp2
 exact bodyPost_end (v:=.tuple #[]) (results_none rfl _ _ _) rfl ⟨rfl,⟨hfin.out.1,hfin.out.2.1⟩,hfin.out.2.2⟩
end
section
variable {w w':World} {cb mb room jb mp:Nat} {L:List Cd} {s b:By} {l:List Bool} {o:Bool}
theorem mBring2_calls (r:List By) (n:Nat) (cB:Cd) (x g:Int) (b1 b2 b3:Nat) (h:ChG noEx w cb mb 1 room L) (hI:ImsK n L) (hp:IsPath (L.map (·.x)) b r) (hc:fK L b=some cB) (hn:∀c∈L,c.nm.length≤maxLen) (hp8:r.length≤64) (hn2:n≤256)
 (hB:Blk w jb (mergeC cb mp s b o) 148) (h1:Blk w b1 [.pointer (some ⟨jb,0,none⟩)] 56) (h2:Blk w b2 [.int .i64 x] 3) (h3:Blk w b3 [.int .i64 g] 3)
 (n0:¬chO cb mb L jb) (n1:¬chO cb mb L b1) (n2:¬chO cb mb L b2) (n3:¬chO cb mb L b3) :
 Calls Tryz.prog 289 #[.pointer (some ⟨b1,0,none⟩),.pointer (some ⟨b2,0,none⟩),.pointer (some ⟨b3,0,none⟩)] w (chResPost w cb mb room L b (zeroE cB.x.M x g (belL (L.map (·.x)) n r))):=by
 have kZ:=fun X (hX:Fr [] w X)=>chZero_calls b r n cB x g (h.fr0 hX) hI hp hc hn hp8 hn2
 have hdr:=(Fr.refl [] w).drew
 have hS0:Blk w.drew jb (mergeC cb mp s b o) 148∧Blk w.drew b1 [.pointer (some ⟨jb,0,none⟩)] 56∧Blk w.drew b2 [.int .i64 x] 3∧Blk w.drew b3 [.int .i64 g] 3:=⟨hB.drew,h1.drew,h2.drew,h3.drew⟩
 generalize zeroE cB.x.M x g (belL (L.map (·.x)) n r)=R at *
 unfold chResPost at kZ ⊢
 clear h hI hp hc hn hB h1 h2 h3
 go_enter Tryz.func289,Tryz.ntmps289
 go_wp2_with fail
 refine wp_region_G (fun X=>Blk X jb (mergeC cb mp s b o) 148∧Blk X b1 [.pointer (some ⟨jb,0,none⟩)] 56∧Blk X b2 [.int .i64 x] 3∧Blk X b3 [.int .i64 g] 3) [(true,0),(true,1),(true,2),(true,3),(true,4),(true,5),(true,6),(true,7),(true,8),(true,9),(false,10),(true,11)] (by as_aux_lemma=>kernel_rfl) (by as_aux_lemma=>kernel_rfl) (hS0) ?_
 simp only [inOrder,jD,jE,jF,jG]
 refine wpG_val (.pointer (some ⟨jb,0,none⟩)) (by first | rfl | go_simp) (fun X hX=>by have cc:=Blk.cell hX.2.1;go_simp) ?_
 simp only [Act.put,jA,jB,jC]
 iterate 2 (refine wpG_pure fun K hK=>?_;go_simp;refine hK _ ?_;clear hK K)
 refine wpG_val (.pointer (some ⟨cb,0,none⟩)) (by first | rfl | go_simp) (fun X hX=>by have cc:=Blk.cell hX.1;unfold mergeC at cc;go_simp) ?_
 simp only [Act.put,jA,jB,jC]
 refine wpG_val (.pointer (some ⟨jb,0,none⟩)) (by first | rfl | go_simp) (fun X hX=>by have cc:=Blk.cell hX.2.1;go_simp) ?_
 simp only [Act.put,jA,jB,jC]
 iterate 2 (refine wpG_pure fun K hK=>?_;go_simp;refine hK _ ?_;clear hK K)
 refine wpG_val (strL b) (by first | rfl | go_simp) (fun X hX=>by have cc:=Blk.cell hX.1;unfold mergeC at cc;go_simp) ?_
 simp only [Act.put,jA,jB,jC]
 refine wpG_val (.int .i64 x) (by first | rfl | go_simp) (fun X hX=>by have cc:=Blk.cell hX.2.2.1;go_simp) ?_
 simp only [Act.put,jA,jB,jC]
 refine wpG_val (.int .i64 g) (by first | rfl | go_simp) (fun X hX=>by have cc:=Blk.cell hX.2.2.2;go_simp) ?_
 simp only [Act.put,jA,jB,jC]
 refine wpG_one fun K hK=>?_
 go_simp
 refine (kZ _ hdr).mono ?_
 rintro e w5 ⟨i,rfl,rfl,p',h5,hs5⟩
 refine hK _ _ (⟨hs5.blk hS0.1 n0,hs5.blk hS0.2.1 n1,hs5.blk hS0.2.2.1 n2,hs5.blk hS0.2.2.2 n3⟩) ?_
 clear hK K
 iterate 1 (refine wpG_pure fun K hK=>?_;go_simp;refine hK _ ?_;clear hK K)
 refine wpG_end ?_
 have hfin:=hidIt (And.intro h5 ((StepO.fr0 hdr).trans hs5))
 clear h5 hs5 kZ hS0
 go_wp2
 go_ret
 exact ⟨_,rfl,rfl,p',hfin.out.1,hfin.out.2⟩
theorem mBring1_calls (r:List By) (n k K:Nat) (cB:Cd) (b1 b2 b3:Nat) (h:ChG noEx w cb mb 1 room L) (hI:ImsK n L) (hps:IsPath (L.map (·.x)) s (b :: r)) (hp:IsPath (L.map (·.x)) b r) (hc:fK L b=some cB) (hn:∀c∈L,c.nm.length≤maxLen) (hp8:r.length<64) (hn2:n≤256) (hkn:k<n)
 (hB:Blk w jb (mergeC cb mp s b o) 148) (h1:Blk w b1 [.pointer (some ⟨jb,0,none⟩)] 56) (h2:Blk w b2 [.int .i64 (K:Int)] 3) (h3:Blk w b3 [.int .i64 (k:Int)] 3)
 (n0:¬chO cb mb L jb) (n1:¬chO cb mb L b1) (n2:¬chO cb mb L b2) (n3:¬chO cb mb L b3) :
 Calls Tryz.prog 288 #[.pointer (some ⟨b1,0,none⟩),.pointer (some ⟨b2,0,none⟩),.pointer (some ⟨b3,0,none⟩)] w (chResPost w cb mb room L b (writeE cB.x.M (K:Int) (seenC (L.map (·.x)) 32 (s :: b :: r) k) (belL (L.map (·.x)) n r))):=by
 have hcm:=(nlFind_mem hc).1
 have hdr:=(Fr.refl [] w).drew
 have kC:=chCluster_calls s (b :: r) n k (h.fr0 hdr) hI hps hn (by rw [List.length_cons];omega) hn2
 have hview:viewK L n s (b :: r) k=seenC (L.map (·.x)) 32 (s :: b :: r) k:=by unfold viewK;rw [if_pos hkn]
 rw [hview] at kC
 unfold viewPost at kC
 generalize seenC (L.map (·.x)) 32 (s :: b :: r) k=T at *
 have kW:=fun X (hX:Fr [] w.drew X) v hv hfar=>chWrite_calls b r n cB (K:Int) v T ((h.fr0 hdr).fr0 hX) hI hp hc hn (by omega) hn2 hv hfar
 have hnewP:∀y,w.drew.heap.size≤y→cB.p.r y=none:=fun y hy=>((h.fr0 hdr).img cB hcm (fun h=>h)).new hy
 have hS0:Blk w.drew jb (mergeC cb mp s b o) 148∧Blk w.drew b1 [.pointer (some ⟨jb,0,none⟩)] 56∧Blk w.drew b2 [.int .i64 (K:Int)] 3∧Blk w.drew b3 [.int .i64 (k:Int)] 3:=⟨hB.drew,h1.drew,h2.drew,h3.drew⟩
 generalize writeE cB.x.M (K:Int) T (belL (L.map (·.x)) n r)=R at *
 unfold chResPost at kW ⊢
 clear h hI hp hps hc hn hB h1 h2 h3 hview
 go_enter Tryz.func288,Tryz.ntmps288
 go_wp2_with fail
 refine wp_region_G (fun X=>Blk X jb (mergeC cb mp s b o) 148∧Blk X b1 [.pointer (some ⟨jb,0,none⟩)] 56∧Blk X b2 [.int .i64 (K:Int)] 3∧Blk X b3 [.int .i64 (k:Int)] 3) [(true,0),(true,1),(true,2),(true,3),(true,4),(true,5),(true,6),(true,7),(true,8),(true,9),(true,10),(true,11),(true,12),(true,13),(true,14),(true,15),(true,16),(true,17),(false,18),(false,19),(true,20)] (by as_aux_lemma=>kernel_rfl) (by as_aux_lemma=>kernel_rfl) (hS0) ?_
 simp only [inOrder,jD,jE,jF,jG]
 refine wpG_val (.pointer (some ⟨jb,0,none⟩)) (by first | rfl | go_simp) (fun X hX=>by have cc:=Blk.cell hX.2.1;go_simp) ?_
 simp only [Act.put,jA,jB,jC]
 iterate 2 (refine wpG_pure fun K hK=>?_;go_simp;refine hK _ ?_;clear hK K)
 refine wpG_val (.pointer (some ⟨cb,0,none⟩)) (by first | rfl | go_simp) (fun X hX=>by have cc:=Blk.cell hX.1;unfold mergeC at cc;go_simp) ?_
 simp only [Act.put,jA,jB,jC]
 refine wpG_val (.pointer (some ⟨jb,0,none⟩)) (by first | rfl | go_simp) (fun X hX=>by have cc:=Blk.cell hX.2.1;go_simp) ?_
 simp only [Act.put,jA,jB,jC]
 iterate 2 (refine wpG_pure fun K hK=>?_;go_simp;refine hK _ ?_;clear hK K)
 refine wpG_val (strL b) (by first | rfl | go_simp) (fun X hX=>by have cc:=Blk.cell hX.1;unfold mergeC at cc;go_simp) ?_
 simp only [Act.put,jA,jB,jC]
 refine wpG_val (.int .i64 (K:Int)) (by first | rfl | go_simp) (fun X hX=>by have cc:=Blk.cell hX.2.2.1;go_simp) ?_
 simp only [Act.put,jA,jB,jC]
 refine wpG_val (.pointer (some ⟨jb,0,none⟩)) (by first | rfl | go_simp) (fun X hX=>by have cc:=Blk.cell hX.2.1;go_simp) ?_
 simp only [Act.put,jA,jB,jC]
 iterate 2 (refine wpG_pure fun K hK=>?_;go_simp;refine hK _ ?_;clear hK K)
 refine wpG_val (.pointer (some ⟨cb,0,none⟩)) (by first | rfl | go_simp) (fun X hX=>by have cc:=Blk.cell hX.1;unfold mergeC at cc;go_simp) ?_
 simp only [Act.put,jA,jB,jC]
 refine wpG_val (.pointer (some ⟨jb,0,none⟩)) (by first | rfl | go_simp) (fun X hX=>by have cc:=Blk.cell hX.2.1;go_simp) ?_
 simp only [Act.put,jA,jB,jC]
 iterate 2 (refine wpG_pure fun K hK=>?_;go_simp;refine hK _ ?_;clear hK K)
 refine wpG_val (strL s) (by first | rfl | go_simp) (fun X hX=>by have cc:=Blk.cell hX.1;unfold mergeC at cc;go_simp) ?_
 simp only [Act.put,jA,jB,jC]
 refine wpG_val (.int .i64 (k:Int)) (by first | rfl | go_simp) (fun X hX=>by have cc:=Blk.cell hX.2.2.2;go_simp) ?_
 simp only [Act.put,jA,jB,jC]
 refine wpG_one fun K hK=>?_
 go_simp
 refine (kC).mono ?_
 rintro e w4 ⟨v,rfl,hv,_,hvn,hf4⟩
 refine hK _ _ (⟨hS0.1.fr0 hf4,hS0.2.1.fr0 hf4,hS0.2.2.1.fr0 hf4,hS0.2.2.2.fr0 hf4⟩) ?_
 clear hK K
 refine wpG_one fun K' hK'=>?_
 go_simp
 refine (kW w4 hf4 v hv (fun _ y hy=>hnewP y (hvn y hy))).mono ?_
 rintro e w5 ⟨i,rfl,rfl,p',h5,hs5⟩
 refine hK' _ _ ⟨hs5.blk (hS0.1.fr0 hf4) n0,hs5.blk (hS0.2.1.fr0 hf4) n1,hs5.blk (hS0.2.2.1.fr0 hf4) n2,hs5.blk (hS0.2.2.2.fr0 hf4) n3⟩ ?_
 clear hK' K'
 iterate 1 (refine wpG_pure fun K hK=>?_;go_simp;refine hK _ ?_;clear hK K)
 refine wpG_end ?_
 have hfin:=hidIt (And.intro h5 ((StepO.fr0 (hdr.trans0 hf4)).trans hs5))
 clear h5 hs5 kW kC hS0 hv hvn hnewP
 go_wp2
 go_ret
 exact ⟨_,rfl,rfl,p',hfin.out.1,hfin.out.2⟩
end
def IMap (w:World) (mb:Nat) (m:Value→Option Value):Prop:=∃es clock,mapAt w mb=some (es,clock)∧IsM Tryz.prog 3 es clock m
theorem IMap.fr {w w':World} {mb:Nat} {m:Value→Option Value} {M:List Nat} (h:IMap w mb m) (hf:Fr M w w') (hm:mb ∉ M):IMap w' mb m:=by
 obtain ⟨es,c,h1,h2⟩:=h
 exact ⟨es,c,mapAt_fr h1 hf hm,h2⟩
theorem IMap.new (w:World):IMap (w.alloc (Obj.map #[] 0)) w.heap.size (fun _=>none):=⟨#[],0,by rw [mapAt_some];exact heap_alloc_new w _,IsM.empty⟩
theorem IMap.put {w:World} {mb:Nat} {m:Value→Option Value} {T E:TypeId} (ht:(Tryz.prog).underlying T=some (.map 3 E)) (h:IMap w mb m) (k:Int) (hk:0≤k∧k<1000000) (v:Value) :
 ∃w',(Instr.mapUpdate T (.map (some mb)) (.int .i64 k) v).run Tryz.prog w=.ok () w'∧IMap w' mb (upd m (.int .i64 k) (some v))∧Fr [mb] w w':=by
 obtain ⟨es,c,hm,hi⟩:=h
 obtain ⟨es',c',hr,hi'⟩:=run_mapUpdate_isM (P:=Tryz.prog) ht bKeyInt hi (bKeyI (k:=k) hk.1 hk.2) v w hm
 exact ⟨_,hr,⟨es',c',mapAt_putMap (mapAt_lt hm) es' c',hi'⟩,putMap_fr w mb es' c'⟩
theorem IMap.look2 {w:World} {mb:Nat} {m:Value→Option Value} {T E:TypeId} (ht:(Tryz.prog).underlying T=some (.map 3 E)) (h:IMap w mb m) {z:Value} (hz:(zeroValue E).run Tryz.prog w=.ok z w) (k:Int) (hk:0≤k∧k<1000000) :
 (Instr.lookup T (.map (some mb)) (.int .i64 k) true).run Tryz.prog w=.ok (.tuple #[(m (.int .i64 k)).getD z,.bool (m (.int .i64 k)).isSome]) w:=by
 obtain ⟨es,c,hm,hi⟩:=h
 rw [run_lookup_isM ht bKeyInt hi true (bKeyI (k:=k) hk.1 hk.2) w hz hm]
 rfl
theorem kind012 {n:Nat} {L:List Cd} {s:By} {c:Cd} (hI:ImsK n L) (hc:fK L s=some c) (k:Nat):kindD (L.map (·.x)) s k=0∨kindD (L.map (·.x)) s k=1∨kindD (L.map (·.x)) s k=2:=by
 rw [kindD_of hc]
 have hr:=(hI c (nlFind_mem hc).1).1.right
 by_cases hk:k<c.x.M.t.length
 ·have:=hr (c.x.M.t.getD k zS) (by rw [List.getD_eq_getElem?_getD,List.getElem?_eq_getElem hk];exact List.getElem_mem _)
  generalize c.x.M.t.getD k zS=q at *
  unfold rightS at this
  split at this
  ·exact .inr (.inl ‹_›)
  ·simp only [Bool.and_eq_true,Bool.or_eq_true,decide_eq_true_eq] at this
   rcases this.1.1 with h | h
   ·exact .inl h
   ·exact .inr (.inr h)
 ·rw [List.getD_eq_getElem?_getD,List.getElem?_eq_none (by omega)]
  exact .inl rfl
section
variable {w w':World} {cb mb room jb mp:Nat} {L:List Cd} {s b:By} {l:List Bool} {o:Bool}
theorem chRes_fr0 {X:World} {r:Int × Img} {e:Ending} (hf:Fr [] w X) (h:chResPost X cb mb room L s r e w'):chResPost w cb mb room L s r e w':=by
 obtain ⟨i,h1,h2,p',h3,h4⟩:=h
 exact ⟨i,h1,h2,p',h3,(StepO.fr0 hf).trans h4⟩
theorem bringPost_def {k K n:Nat} {r:List By} {g:Int} {cB:Cd} {e:Ending} {KD:Int} (hKD:kindD (L.map (·.x)) s k=KD)
 (h:(KD=1∧chResPost w cb mb room L b (writeE cB.x.M (K:Int) (seenC (L.map (·.x)) 32 (s :: b :: r) k) (belL (L.map (·.x)) n r)) e w') ∨
   (KD=2∧chResPost w cb mb room L b (zeroE cB.x.M (K:Int) g (belL (L.map (·.x)) n r)) e w')∨(KD≠1∧KD≠2∧e=.returned (.int .i64 0)∧Fr [] w w')):(kindD (L.map (·.x)) s k=1∧chResPost w cb mb room L b (writeE cB.x.M (K:Int) (seenC (L.map (·.x)) 32 (s :: b :: r) k) (belL (L.map (·.x)) n r)) e w') ∨
   (kindD (L.map (·.x)) s k=2∧chResPost w cb mb room L b (zeroE cB.x.M (K:Int) g (belL (L.map (·.x)) n r)) e w')∨(kindD (L.map (·.x)) s k≠1∧kindD (L.map (·.x)) s k≠2∧e=.returned (.int .i64 0)∧Fr [] w w'):=by
 subst hKD
 exact h
def bringPost (w:World) (cb mb room:Nat) (L:List Cd) (n:Nat) (s b:By) (r:List By) (k K:Nat) (g:Int) (cB:Cd) (e:Ending) (w':World):Prop :=
 (kindD (L.map (·.x)) s k=1∧chResPost w cb mb room L b (writeE cB.x.M (K:Int) (seenC (L.map (·.x)) 32 (s :: b :: r) k) (belL (L.map (·.x)) n r)) e w') ∨
 (kindD (L.map (·.x)) s k=2∧chResPost w cb mb room L b (zeroE cB.x.M (K:Int) g (belL (L.map (·.x)) n r)) e w') ∨
 (kindD (L.map (·.x)) s k≠1∧kindD (L.map (·.x)) s k≠2∧e=.returned (.int .i64 0)∧Fr [] w w')
theorem mBring_calls (r:List By) (n k K:Nat) (g:Int) (c cB:Cd) (h:ChG noEx w cb mb 1 room L) (hI:ImsK n L) (hps:IsPath (L.map (·.x)) s (b :: r)) (hp:IsPath (L.map (·.x)) b r) (hcs:fK L s=some c) (hc:fK L b=some cB) (hn:∀c∈L,c.nm.length≤maxLen) (hp8:r.length<64) (hn2:n≤256) (hkn:k<n)
 (hB:Blk w jb (mergeC cb mp s b o) 148) (n0:¬chO cb mb L jb) :
 Calls Tryz.prog 287 #[.pointer (some ⟨jb,0,none⟩),.int .i64 (k:Int),.int .i64 (K:Int),.int .i64 g] w (bringPost w cb mb room L n s b r k K g cB):=by
 have hcm:=(nlFind_mem hcs).1
 have hsl:s.length≤maxLen:=by rw [←(nlFind_mem hcs).2];exact hn c hcm
 obtain ⟨W1,hW1⟩:∃W1,Hid (((((w.alloc (Obj.cells #[.pointer (some ⟨jb,0,none⟩)] 56)).alloc (Obj.cells #[.int .i64 (k:Int)] 3)).alloc (Obj.cells #[.int .i64 (K:Int)] 3)).alloc (Obj.cells #[.int .i64 g] 3)).alloc (Obj.map #[] 0)=W1):=⟨_,hidIt rfl⟩
 obtain ⟨mb1,hm1⟩:∃x,Hid (w.heap.size+1+1+1+1=x):=⟨_,hidIt rfl⟩
 obtain ⟨gb,hgb⟩:∃x,Hid (w.heap.size+1+1+1=x):=⟨_,hidIt rfl⟩
 obtain ⟨xb,hxb⟩:∃x,Hid (w.heap.size+1+1=x):=⟨_,hidIt rfl⟩
 obtain ⟨kb,hkb⟩:∃x,Hid (w.heap.size+1=x):=⟨_,hidIt rfl⟩
 obtain ⟨jc,hjc⟩:∃x,Hid (w.heap.size=x):=⟨_,hidIt rfl⟩
 have hF1:Fr [] w W1:=by rw [←hW1.out];exact (((((Fr.refl [] w).alloc _).alloc _).alloc _).alloc _).alloc _
 have B1:Blk W1 jc [.pointer (some ⟨jb,0,none⟩)] 56:=by
  rw [←hW1.out]
  exact ((((Blk.new' hjc.out.symm [.pointer (some ⟨jb,0,none⟩)] _).alloc _).alloc _).alloc _).alloc _
 have B2:Blk W1 kb [.int .i64 (k:Int)] 3:=by
  rw [←hW1.out]
  exact (((Blk.new' (by rw [World.size_alloc];exact hkb.out.symm) [.int .i64 (k:Int)] _).alloc _).alloc _).alloc _
 have B3:Blk W1 xb [.int .i64 (K:Int)] 3:=by
  rw [←hW1.out]
  exact ((Blk.new' (by simp only [World.size_alloc];exact hxb.out.symm) [.int .i64 (K:Int)] _).alloc _).alloc _
 have B4:Blk W1 gb [.int .i64 g] 3:=by
  rw [←hW1.out]
  exact (Blk.new' (by simp only [World.size_alloc];exact hgb.out.symm) [.int .i64 g] _).alloc _
 have M1:IMap W1 mb1 (fun _=>none):=by
  rw [←hW1.out,←hm1.out]
  have:=IMap.new ((((w.alloc (Obj.cells #[.pointer (some ⟨jb,0,none⟩)] 56)).alloc (Obj.cells #[.int .i64 (k:Int)] 3)).alloc (Obj.cells #[.int .i64 (K:Int)] 3)).alloc (Obj.cells #[.int .i64 g] 3))
  simp only [World.size_alloc] at this
  exact this
 have kI:=fun X (hX:Fr [] w X)=>chImage_calls s (h.fr0 hX) hsl
 simp only [hcs] at kI
 have kK:=fun X (hX:Fr [] w X)=>iKind_calls (k:Int) X ((h.img c hcm (fun h=>h)).fr0 hX)
 simp only [tget_nat,←kindD_of hcs] at kK
 have hjB:=fun X (hX:Fr [] w X)=>(hB.fr0 hX).cell
 unfold mergeC at hjB
 have ck:=kind012 hI hcs k
 have hnw:∀q,w.heap.size≤q→¬chO cb mb L q:=fun q hq hc=>by have:=h.lt (fun _ _ h=>h) hc;omega
 have kB1:=fun X (hX:Fr [] w X) b1 b2 b3 h1 h2 h3 n1 n2 n3=>mBring1_calls r n k K cB b1 b2 b3 (h.fr0 hX) hI hps hp hc hn hp8 hn2 hkn (hB.fr0 hX) h1 h2 h3 n0 n1 n2 n3
 have kB2:=fun X (hX:Fr [] w X) b1 b2 b3 h1 h2 h3 n1 n2 n3=>mBring2_calls r n cB (K:Int) g b1 b2 b3 (h.fr0 hX) hI hp hc hn (by omega) hn2 (hB.fr0 hX) h1 h2 h3 n0 n1 n2 n3
 obtain ⟨S,hS⟩:∃S,Hid (strL s=Value.string S):=⟨_,hidIt rfl⟩
 rw [hS.out] at kI
 simp only [hS.out] at hjB
 have hpost:Hid (bringPost w cb mb room L n s b r k K g cB=bringPost w cb mb room L n s b r k K g cB):=hidIt rfl
 obtain ⟨KD,hKD⟩:∃KD,Hid (kindD (L.map (·.x)) s k=KD):=⟨_,hidIt rfl⟩
 simp only [hKD.out] at kK ck
 clear h hI hps hp hn hpost
 have hmm:=@run_makeMap Tryz.prog
 have hkbl:w.heap.size≤kb∧w.heap.size≤xb∧w.heap.size≤gb∧w.heap.size≤jc∧w.heap.size≤mb1∧mb1≠jc∧mb1≠kb∧mb1≠xb∧mb1≠gb:=by
  have:=hkb.out;have:=hxb.out;have:=hgb.out;have:=hjc.out;have:=hm1.out
  omega
 go_enter Tryz.func287,Tryz.ntmps287
 go_wp2_with fail
 rw [hW1.out,hm1.out,hgb.out,hxb.out,hkb.out,hjc.out]
 obtain ⟨W2,hup1,M2,hf2⟩:=M1.put (T:=344) Tryz.underlying344 1 (by decide) (.func (.func 288) #[] #[.pointer (some ⟨jc,0,none⟩),.pointer (some ⟨xb,0,none⟩),.pointer (some ⟨kb,0,none⟩)])
 obtain ⟨W3,hup2,M3,hf3⟩:=M2.put (T:=344) Tryz.underlying344 2 (by decide) (.func (.func 289) #[] #[.pointer (some ⟨jc,0,none⟩),.pointer (some ⟨xb,0,none⟩),.pointer (some ⟨gb,0,none⟩)])
 rw [hup1]
 have hf13:Fr [mb1] W1 W3:=hf2.trans' hf3
 have B1':=B1.fr hf13 (by simp;omega)
 have B2':=B2.fr hf13 (by simp;omega)
 have B3':=B3.fr hf13 (by simp;omega)
 have B4':=B4.fr hf13 (by simp;omega)
 have hF3:Fr [] w W3:=hF1.trans1 hf13 (by omega)
 clear hW1 hm1 hgb hxb hkb hjc B1 B2 B3 B4 M1 M2 hf2 hf3 hf13 hmm hup1
 go_wp2_with fail
 have hdr:=hF3.drew
 refine wp_region_G (fun X=>Fr [] W3.drew X) [(true,0),(true,1),(true,2),(true,3),(true,4),(true,5),(true,6),(true,7),(true,8),(true,10),(false,9),(false,11),(true,12),(true,13),(true,14),(true,15),(true,16),(true,17)] (by as_aux_lemma=>kernel_rfl) (by as_aux_lemma=>kernel_rfl) (Fr.refl _ _) ?_
 simp only [inOrder,jD,jE,jF,jG]
 iterate 1 (refine wpG_pure fun K hK=>?_;go_simp;refine hK _ ?_;clear hK K)
 refine wpG_val (.pointer (some ⟨jb,0,none⟩)) (by first | rfl | go_simp) (fun X hX=>by have cc:=(B1'.fr0 (((Fr.refl [] W3).drew).trans0 hX)).cell;go_simp) ?_
 simp only [Act.put,jA,jB,jC]
 iterate 2 (refine wpG_pure fun K hK=>?_;go_simp;refine hK _ ?_;clear hK K)
 refine wpG_val (.pointer (some ⟨cb,0,none⟩)) (by first | rfl | go_simp) (fun X hX=>by have cc:=hjB _ (hdr.trans0 hX);go_simp) ?_
 simp only [Act.put,jA,jB,jC]
 refine wpG_val (.pointer (some ⟨jb,0,none⟩)) (by first | rfl | go_simp) (fun X hX=>by have cc:=(B1'.fr0 (((Fr.refl [] W3).drew).trans0 hX)).cell;go_simp) ?_
 simp only [Act.put,jA,jB,jC]
 iterate 2 (refine wpG_pure fun K hK=>?_;go_simp;refine hK _ ?_;clear hK K)
 refine wpG_val (.string S) (by first | rfl | go_simp) (fun X hX=>by have cc:=hjB _ (hdr.trans0 hX);go_simp) ?_
 simp only [Act.put,jA,jB,jC]
 refine wpG_val (.int .i64 (k:Int)) (by first | rfl | go_simp) (fun X hX=>by have cc:=(B2'.fr0 (((Fr.refl [] W3).drew).trans0 hX)).cell;go_simp) ?_
 simp only [Act.put,jA,jB,jC]
 refine wpG_one fun K hK=>?_
 go_simp
 refine (kI _ hdr).mono ?_
 rintro e w4 ⟨rfl,hw4⟩
 rw [hw4]
 refine hK _ _ (Fr.refl _ _) ?_
 clear hK K
 refine wpG_one fun K hK=>?_
 go_simp
 refine (kK _ hdr).mono ?_
 rintro e w5 ⟨rfl,hf5⟩
 refine hK _ _ (hf5) ?_
 clear hK K
 have hz3:=hF3.size
 rcases ck with h0 | h0 | h0
 ·rw [h0]
  have hlk:=fun X (hX:Fr [] W3.drew X)=>(M3.fr (((Fr.refl [] W3).drew).trans0 hX) (by simp)).look2 (T:=344) Tryz.underlying344 (z:=.nilFunc) (by kernel_rfl) 0 (by decide)
  simp only [upd] at hlk
  refine wpG_val (.tuple #[.nilFunc,.bool false]) (by first | rfl | go_simp) (fun X hX=>by have cc:=hlk _ hX;go_simp) ?_
  simp only [Act.put,jA,jB,jC]
  iterate 5 (refine wpG_pure fun K hK=>?_;go_simp;refine hK _ ?_;clear hK K)
  refine wpG_end ?_
  go_wp2
  go_ret
  exact bringPost_def hKD.out (.inr (.inr ⟨by rw [h0];decide,by rw [h0];decide,rfl,hdr.trans0 hf5⟩))
 ·rw [h0]
  have hlk:=fun X (hX:Fr [] W3.drew X)=>(M3.fr (((Fr.refl [] W3).drew).trans0 hX) (by simp)).look2 (T:=344) Tryz.underlying344 (z:=.nilFunc) (by kernel_rfl) 1 (by decide)
  simp only [upd] at hlk
  refine wpG_val (.tuple #[.func (.func 288) #[] #[.pointer (some ⟨jc,0,none⟩),.pointer (some ⟨xb,0,none⟩),.pointer (some ⟨kb,0,none⟩)],.bool true]) (by first | rfl | go_simp) (fun X hX=>by have cc:=hlk _ hX;go_simp) ?_
  simp only [Act.put,jA,jB,jC]
  iterate 5 (refine wpG_pure fun K hK=>?_;go_simp;refine hK _ ?_;clear hK K)
  refine wpG_end ?_
  have hF5:=hdr.trans0 hf5
  have hf35:=((Fr.refl [] W3).drew).trans0 hf5
  have kX:=kB1 w5 hF5 jc xb kb (B1'.fr0 hf35) (B3'.fr0 hf35) (B2'.fr0 hf35) (hnw _ (by omega)) (hnw _ (by omega)) (hnw _ (by omega))
  have hfin:=hidIt (fun e w' h=>bringPost_def (w:=w) (cb:=cb) (mb:=mb) (room:=room) (b:=b) (n:=n) (K:=K) (r:=r) (g:=g) (cB:=cB) (e:=e) (w':=w') hKD.out (.inl ⟨h0,chRes_fr0 hF5 h⟩))
  clear kB1 kB2 hnw hlk kI kK
  unfold chResPost at kX
  go_wp2_with fail
  refine kX.mono ?_
  rintro e w6 ⟨i,rfl,hr⟩
  replace hr:=hidIt hr
  clear kX
  go_wp2
  go_ret
  exact hfin.out _ _ ⟨i,rfl,hr.out⟩
 ·rw [h0]
  have hlk:=fun X (hX:Fr [] W3.drew X)=>(M3.fr (((Fr.refl [] W3).drew).trans0 hX) (by simp)).look2 (T:=344) Tryz.underlying344 (z:=.nilFunc) (by kernel_rfl) 2 (by decide)
  simp only [upd] at hlk
  refine wpG_val (.tuple #[.func (.func 289) #[] #[.pointer (some ⟨jc,0,none⟩),.pointer (some ⟨xb,0,none⟩),.pointer (some ⟨gb,0,none⟩)],.bool true]) (by first | rfl | go_simp) (fun X hX=>by have cc:=hlk _ hX;go_simp) ?_
  simp only [Act.put,jA,jB,jC]
  iterate 5 (refine wpG_pure fun K hK=>?_;go_simp;refine hK _ ?_;clear hK K)
  refine wpG_end ?_
  have hF5:=hdr.trans0 hf5
  have hf35:=((Fr.refl [] W3).drew).trans0 hf5
  have kX:=kB2 w5 hF5 jc xb gb (B1'.fr0 hf35) (B3'.fr0 hf35) (B4'.fr0 hf35) (hnw _ (by omega)) (hnw _ (by omega)) (hnw _ (by omega))
  have hfin:=hidIt (fun e w' h=>bringPost_def (w:=w) (cb:=cb) (mb:=mb) (room:=room) (b:=b) (n:=n) (K:=K) (r:=r) (g:=g) (cB:=cB) (e:=e) (w':=w') hKD.out (.inr (.inl ⟨h0,chRes_fr0 hF5 h⟩)))
  clear kB1 kB2 hnw hlk kI kK
  unfold chResPost at kX
  go_wp2_with fail
  refine kX.mono ?_
  rintro e w6 ⟨i,rfl,hr⟩
  replace hr:=hidIt hr
  clear kX
  go_wp2
  go_ret
  exact hfin.out _ _ ⟨i,rfl,hr.out⟩
end
end Go.Proofs.YtffnihooekbcnaaGreat
