/-
  Package list: Encode.
-/
import Derived.Test.YtffnihooekbcnaaGreatLsB
import Derived.Test.YtffnihooekbcnaaGreatG20
set_option maxRecDepth 100000
set_option maxHeartbeats 6400000
namespace Go.Proofs.YtffnihooekbcnaaGreat
open Go.RowKit Go.Maps
attribute [local go_sem] mapAt_alloc mapAt_setCell mapAt_drew mapAt_drewN cells_str store_str eql_str neq_str guard_str len_str
structure Acc (H:Nat) (w0 w:World) (u:Value) (P:By):Prop where
 row:w.ownsRow H 5 1 u P.length (P.flatMap byC)
 fr:Fr [] w0 w
 le:w0.heap.size≤H
 lh:H≤w.heap.size
theorem Acc.fr0 {H:Nat} {w0 w w':World} {u:Value} {P:By} (h:Acc H w0 w u P) (hf:Fr [] w w'):Acc H w0 w' u P:=⟨owns_fr h.row hf (by simp),h.fr.trans0 hf,h.le,Nat.le_trans h.lh hf.size⟩
def accPost (H:Nat) (w0 w:World) (u:Value) (P:By) (e:Ending) (w':World):Prop :=
 ∃u',e=.returned (.tuple #[u',.bool true])∧Acc H w0 w' u' P∧(∀k,k<w.heap.size→u.ownBlock≠some k→u'.ownBlock≠some k)∧Fr u.ownBlock.toList w w'
theorem acc_text {H:Nat} {w0 w:World} {u:Value} {P s:By} (W:Nat) (hW:W=1∨W=2∨W=4) (h:Acc H w0 w u P) (hs:s.length<256 ^ W) (hm:P.length≤900000) (hsm:s.length≤1000000) :
 Calls Tryz.prog 115 #[u,strL s,.int .i64 (W:Int)] w (accPost H w0 w u (P++numL W s.length++s)):=by
 refine (oText_calls W hW H u P s w h.row hs (by omega) hsm h.lh).mono ?_
 rintro e w' ⟨u',rfl,h1,h2,h3⟩
 refine ⟨u',rfl,⟨h1,h.fr.trans h2 fun x hx hl=>?_,h.le,Nat.le_trans h.lh h2.size⟩,fun k hk hn e=>?_,h2⟩
 ·have:=own_base h.row x (by simpa using hx)
  have:=h.le
  omega
 ·rcases h3 k e with h9 | h9
  ·exact hn h9
  ·omega
theorem acc_put {H:Nat} {w0 w:World} {u:Value} {P:By} (W:Nat) (hW:W=1∨W=2∨W=4) (ns:List Nat) (c:Nat) (h:Acc H w0 w u P) (hns:∀n∈ns,n<256 ^ W) (hm:P.length+ns.length*4≤900000) :
 Calls Tryz.prog 113 #[u,.int .i64 (W:Int),.slice (some ⟨w.heap.size,0,none⟩) ns.length c] (w.alloc (.cells (ns.map fun (n:Nat)=>Value.int .i64 (n:Int)).toArray 3)) (accPost H w0 w u (P++ns.flatMap (numL W))):=by
 have hf:=(Fr.refl [] w).alloc (.cells (ns.map fun (n:Nat)=>Value.int .i64 (n:Int)).toArray 3)
 have h':=h.fr0 hf
 refine (Put_calls W hW ns hns H u P w.heap.size c _ h'.row (by omega) h'.lh (Blk.new w _ _) (fun k hk e=>?_)).mono ?_
 ·have:=(h.row.lt k hk).2;omega
 ·rintro e w' ⟨u',rfl,h1,h2,h3⟩
  refine ⟨u',rfl,⟨h1,h'.fr.trans h2 fun x hx hl=>?_,h.le,Nat.le_trans h'.lh h2.size⟩,fun k hk hn e=>?_,hf.weak.trans' h2⟩
  ·have:=own_base h.row x (by simpa using hx)
   have:=h.le
   omega
  ·rcases h3 k e with h9 | h9
   ·exact hn h9
   ·have:=hf.size;omega
section
variable {w w':World} {o:Nat→Prop} {lb:Nat} {v:Value} {ys:List Bkv}
def lsEncPost (w:World) (b:By) (e:Ending) (w':World):Prop:=∃u,e=.returned u∧w'.ownsRow w.heap.size 5 1 u b.length (b.flatMap byC)∧Fr [] w w'
theorem bkB_split (b:Bk):bkB b=numL 1 b.nm.length++b.nm++numL 1 b.pa.length++b.pa++numL 1 1++(numL 2 b.n++numL 2 b.ps.length)++b.ps.flatMap pcB:=rfl
theorem lsEncode_calls (h:LstW w lb o v ys) (hg:∀y∈ys,GoodB y.1) (hl:ys.length≤64):Calls Tryz.prog 65 #[.pointer (some ⟨lb,0,none⟩)] w (lsEncPost w (lsB (ys.map (·.1)))):=by
 obtain ⟨va,vcap,rfl,hvl,hvm,_⟩:=SlF.open h.sl
 have c:=h.blk.cell
 have hsl:=h.sl
 have hone:=h.one
 have hlb:=h.blk.lt
 have B1:=Blk.new w [.int .i64 (ys.length:Int)] 3
 have kP:Calls Tryz.prog 113 #[.slice none 0 0,.int .i64 1,.slice (some ⟨w.heap.size,0,none⟩) 1 1] (w.alloc (.cells #[.int .i64 (ys.length:Int)] 3)) _ :=
  Put_calls 1 (by omega) [ys.length] (by intro n hn;have:=List.mem_singleton.1 hn;subst this;omega) w.heap.size (.slice none 0 0) [] w.heap.size 1 _ (World.ownsRow_nil _ _ _ _) (by simp) (by simp) B1 (fun k hk=>by cases hk)
 obtain ⟨R,hR⟩:∃R,Hid (lsB (ys.map (·.1))=R):=⟨_,hidIt rfl⟩
 rw [hR.out]
 go_enter Tryz.func65,Tryz.ntmps65
 go_wp2_with fail
 refine kP.mono ?_
 rintro e w1 ⟨u,rfl,hu,hf1,_⟩
 clear kP
 have hF1:Fr [] w w1:=((Fr.refl [] w).alloc (.cells #[.int .i64 (ys.length:Int)] 3)).trans0 (show Fr [] _ _ from hf1)
 have e1:([]:By)++[ys.length].flatMap (numL 1)=numL 1 ys.length:=by simp
 rw [e1] at hu
 have c1:=(h.blk.fr0 hF1).cell
 have hR0:Hid (R=numL 1 ys.length++ys.flatMap fun y=>bkB y.1):=hidIt (by
  rw [←hR.out]
  unfold lsB
  rw [List.length_map]
  rw [List.flatMap_map])
 clear hf1 B1 e1 hR
 go_wp2_with fail
 go_loopw [3,24] (fun u i wr=>∃k:Nat,k≤ys.length∧i=.int .i64 (k:Int)∧Acc w.heap.size w wr u (numL 1 ys.length++(ys.take k).flatMap fun y=>bkB y.1)) (fun _ i _=>ys.length - (intOf i).toNat)
 case atStart=>exact ⟨0,Nat.zero_le _,rfl,by rw [List.take_zero,List.flatMap_nil,List.append_nil];exact ⟨hu,hF1,Nat.le_refl _,hF1.size⟩⟩
 case round =>
 clear hu hF1 c1
 obtain ⟨k,hk,rfl,hA⟩:=hrel
 have hF:=hA.fr
 by_cases hlt:k<ys.length
 case neg =>
  have hlt':¬(k:Int)<(ys.length:Int):=by omega
  have hke:k=ys.length:=by omega
  rw [hke,List.take_length,←hR0.out] at hA
  have hfin:=hidIt hA.row
  clear hA hke
  go_wp2
  go_ret
  exact ⟨_,rfl,hfin.out,hF⟩
 have hym:=getD_memB hlt zBv
 have hgk:=hg _ hym
 obtain ⟨b,off,rfl,hbb,d0,d1,d2,d3,d4⟩:=SlF.bkAt (SlF.fr0 hsl hF) hlt
 have hbk:=hone _ hym
 obtain ⟨pa,pc,hpv,hpl,hpm,_⟩:=SlF.open hbk.pcs.sl
 have hps:=hbk.pcs.sl
 have hpb:=hbk.pcs.byt
 have heq:=hbk.ps
 have htk:Hid ((ys.take (k+1)).flatMap (fun y=>bkB y.1)=(ys.take k).flatMap (fun y=>bkB y.1)++bkB (ys.getD k zBv).1):=hidIt (by
  rw [List.take_succ_eq_append_getElem hlt,List.getD_eq_getElem?_getD,List.getElem?_eq_getElem hlt,List.flatMap_append]
  simp)
 have hpre:((ys.take k).flatMap fun y=>bkB y.1).length≤64*9253:=by
  have h1:=flatMap_le (fun y:Bkv=>bkB y.1) 9253 (ys.take k) (fun y hy=>by
   have h2:=hg y (List.mem_of_mem_take hy)
   have:=h2.bytes
   have:=h2.n
   show (bkB y.1).length≤_
   omega)
  have h3:(ys.take k).length≤64:=by rw [List.length_take];omega
  have:=Nat.mul_le_mul_right 9253 h3
  omega
 have hlp:(numL 1 ys.length++(ys.take k).flatMap fun y=>bkB y.1).length≤600000:=by rw [List.length_append,numL_length];omega
 clear hbk
 rw [hpv] at d4 hps
 generalize ys.getD k zBv=y at *
 rw [bkB_split] at htk
 have hnml:=okName_len hgk.nm
 have hpal:=hgk.pa
 have hn256:=hgk.n
 have hplen:=hgk.plen
 have hins:=hgk.ins
 rw [heq] at htk hplen hins
 rw [unP_len] at htk hplen
 generalize y.2.2=xs at *
 generalize y.1.n=n at *
 obtain ⟨P0,hP0⟩:∃P0,Hid ((numL 1 ys.length++(ys.take k).flatMap fun y=>bkB y.1)=P0):=⟨_,hidIt rfl⟩
 rw [hP0.out] at hA hlp
 have key1:∀(X:World) (u:Value) (P:By),Acc w.heap.size w X u P→P.length≤700000→Calls Tryz.prog 115 #[u,strL y.1.nm,.int .i64 1] X (accPost w.heap.size w X u (P++numL 1 y.1.nm.length++y.1.nm)):=fun X u P h1 h2=>acc_text 1 (by omega) h1 (by omega) (by omega) (by omega)
 have key2:∀(X:World) (u:Value) (P:By),Acc w.heap.size w X u P→P.length≤700000→Calls Tryz.prog 115 #[u,strL y.1.pa,.int .i64 1] X (accPost w.heap.size w X u (P++numL 1 y.1.pa.length++y.1.pa)):=fun X u P h1 h2=>acc_text 1 (by omega) h1 (by omega) (by omega) (by omega)
 obtain ⟨N,hN⟩:∃S,Hid (strL y.1.nm=Value.string S):=⟨_,hidIt rfl⟩
 obtain ⟨Q,hQ⟩:∃S,Hid (strL y.1.pa=Value.string S):=⟨_,hidIt rfl⟩
 rw [hN.out] at d0 key1
 rw [hQ.out] at d1 key2
 generalize y.1.nm=nm at *
 generalize y.1.pa=pb at *
 obtain ⟨bk,hbk⟩:∃z,Hid (wr.heap.size=z):=⟨_,hidIt rfl⟩
 have BA:=Blk.new wr [.string N,.string Q,.int .i64 1,.int .i64 (n:Int),.slice pa xs.length pc] 60
 have hA1:=hA.fr0 ((Fr.refl [] wr).alloc (.cells #[.string N,.string Q,.int .i64 1,.int .i64 (n:Int),.slice pa xs.length pc] 60))
 have hno:u3.ownBlock≠some bk:=fun e=>by have:=(hA.row.lt bk e).2;have:=hbk.out;omega
 have hps2:=SlF.fr0 hps hF
 rw [hbk.out] at BA
 have hbw:w.heap.size≤bk:=by have:=hF.size;have:=hbk.out;omega
 have k1:=key1 _ _ _ hA1 (by omega)
 go_wp2_with fail
 rw [hbk.out]
 generalize wr.alloc (.cells #[.string N,.string Q,.int .i64 1,.int .i64 (n:Int),.slice pa xs.length pc] 60)=A at *
 refine k1.mono ?_
 rintro e w2 ⟨u2,rfl,hA2,hn2,hf2⟩
 clear k1 key1 d0 d1 d2 d3 d4
 have B2:=BA.fr hf2 (fun hm=>hno (by simpa using hm))
 have hno2:=hn2 bk BA.lt hno
 obtain ⟨P2,hP2⟩:∃z,Hid (P0++numL 1 nm.length++nm=z):=⟨_,hidIt rfl⟩
 have hl2:P2.length≤P0.length+16:=by rw [←hP2.out];simp [numL_length];omega
 rw [hP2.out] at hA2
 have c2:=B2.cell
 have k2:=key2 _ _ _ hA2 (by omega)
 clear hf2 hn2 hA1 BA hno
 go_wp2_with fail
 refine k2.mono ?_
 rintro e w3 ⟨u3',rfl,hA3,hn3,hf3⟩
 clear k2 key2 c2
 have B3:=B2.fr hf3 (fun hm=>hno2 (by simpa using hm))
 have hno3:=hn3 bk B2.lt hno2
 obtain ⟨P3,hP3⟩:∃z,Hid (P2++numL 1 pb.length++pb=z):=⟨_,hidIt rfl⟩
 have hl3:P3.length≤P2.length+16:=by rw [←hP3.out];simp [numL_length];omega
 rw [hP3.out] at hA3
 have c3:=B3.cell
 have k3:Calls Tryz.prog 113 #[u3',.int .i64 1,.slice (some ⟨w3.heap.size,0,none⟩) 1 1] (w3.alloc (.cells #[.int .i64 1] 3)) _:=acc_put 1 (by omega) [1] 1 hA3 (by simp) (by simp;omega)
 clear hf3 hn3 hA2 B2 hno2
 go_wp2_with fail
 refine k3.mono ?_
 rintro e w4 ⟨u4,rfl,hA4,hn4,hf4⟩
 clear k3 c3
 have B4:=B3.fr hf4 (fun hm=>hno3 (by simpa using hm))
 have hno4:=hn4 bk B3.lt hno3
 obtain ⟨P4,hP4⟩:∃z,Hid (P3++[1].flatMap (numL 1)=z):=⟨_,hidIt rfl⟩
 have hl4:P4.length≤P3.length+1:=by rw [←hP4.out];simp [numL_length]
 rw [hP4.out] at hA4
 have c4:=B4.cell
 have k4:Calls Tryz.prog 113 #[u4,.int .i64 2,.slice (some ⟨w4.heap.size,0,none⟩) 2 2] (w4.alloc (.cells #[.int .i64 (n:Int),.int .i64 (xs.length:Int)] 3)) _:=acc_put 2 (by omega) [n,xs.length] 2 hA4 (by intro m hm;simp at hm;omega) (by simp;omega)
 clear hf4 hn4 hA3 B3 hno3
 go_wp2_with fail
 refine k4.mono ?_
 rintro e w5 ⟨u5,rfl,hA5,hn5,hf5⟩
 clear k4 c4
 have B5:=B4.fr hf5 (fun hm=>hno4 (by simpa using hm))
 have hno5:=hn5 bk B4.lt hno4
 obtain ⟨P5,hP5⟩:∃z,Hid (P4++[n,xs.length].flatMap (numL 2)=z):=⟨_,hidIt rfl⟩
 have hl5:P5.length≤P4.length+4:=by rw [←hP5.out];simp [numL_length]
 rw [hP5.out] at hA5
 have c5:=B5.cell
 clear hf5 hn5 hA4 B4 hno4
 go_wp2_with fail
 have hfi:=hidIt (And.intro htk (And.intro hP0 (And.intro hP2 (And.intro hP3 (And.intro hP4 hP5)))))
 clear htk hP0 hP2 hP3 hP4 hP5 hA B5 hno5 c5 hps2
 generalize wr=wq at *
 go_loopw [3,64] (fun u i wr=>∃j:Nat,j≤xs.length∧i=.int .i64 (j:Int)∧Acc w.heap.size w wr u (P5++(unP (xs.take j)).flatMap pcB)) (fun _ i _=>xs.length - (intOf i).toNat)
 case atStart=>exact ⟨0,Nat.zero_le _,rfl,by rw [List.take_zero];show Acc _ _ _ _ (P5++[]);rw [List.append_nil];exact hA5⟩
 case round =>
 clear hA5
 obtain ⟨j,hj,rfl,hA⟩:=hrel
 by_cases hltj:j<xs.length
 case neg =>
  have hltj':¬(j:Int)<(xs.length:Int):=by omega
  rw [List.take_of_length_le (by omega:xs.length≤j)] at hA
  have hAll:Hid (P5++(unP xs).flatMap pcB=numL 1 ys.length++(ys.take (k+1)).flatMap fun y=>bkB y.1):=hidIt (by
   rw [hfi.out.1.out,←List.append_assoc,hfi.out.2.1.out,←hfi.out.2.2.2.2.2.out,←hfi.out.2.2.2.2.1.out,←hfi.out.2.2.2.1.out,←hfi.out.2.2.1.out]
   simp)
  have hfin:=hidIt hA
  clear hA hfi
  go_wp2
  go_roundw
  case rel=>exact ⟨k+1,by omega,by go_num,by rw [←hAll.out];exact hfin.out⟩
  case measure=>simp [intOf];omega
 obtain ⟨bp,op,rfl,hbp,q0,q1⟩:=SlF.pcAt (SlF.fr0 hps hA.fr) hltj
 have hxm:=getD_memB hltj zPv
 obtain ⟨g1,_,_⟩:=hpb _ hxm
 have hi2:=hins _ (unP_at hltj)
 obtain ⟨ba,bc,hbv,_⟩:=SlF.open g1
 have htj:Hid ((unP (xs.take (j+1))).flatMap pcB=(unP (xs.take j)).flatMap pcB++pcB ((xs.getD j zPv).1,(xs.getD j zPv).2.1)):=hidIt (by
  rw [List.take_succ_eq_append_getElem hltj,List.getD_eq_getElem?_getD,List.getElem?_eq_getElem hltj]
  unfold unP
  rw [List.map_append,List.flatMap_append]
  simp)
 have hlj:((unP (xs.take j)).flatMap pcB).length≤256*36:=by
  have h1:=flatMap_le pcB 36 (unP (xs.take j)) (fun x hx=>by
   unfold unP at hx
   obtain ⟨z,hz,rfl⟩:=List.mem_map.1 hx
   have:=(hins _ (List.mem_map.2 ⟨z,List.mem_of_mem_take hz,rfl⟩)).2
   simp [pcB,numL_length] at this ⊢
   omega)
  rw [unP_len,List.length_take] at h1
  have h3:min j xs.length≤256:=by omega
  have:=Nat.mul_le_mul_right 36 h3
  omega
 rw [hbv] at q1 g1
 simp only at hi2
 generalize hgC:(xs.getD j zPv).1=C at *
 generalize hgB:(xs.getD j zPv).2.1=bs at *
 clear hgC hgB hbv hxm
 rw [hi2.2] at q1 g1
 obtain ⟨P6,hP6⟩:∃z,Hid (P5++(unP (xs.take j)).flatMap pcB=z):=⟨_,hidIt rfl⟩
 have hl6:P6.length≤P5.length+256*36:=by rw [←hP6.out,List.length_append];omega
 rw [hP6.out] at hA
 obtain ⟨bq,hbq⟩:∃z,Hid (wr.heap.size=z):=⟨_,hidIt rfl⟩
 have BQ:=Blk.new wr [.int .i64 (C:Int),.slice ba 32 bc] 71
 have hA1:=hA.fr0 ((Fr.refl [] wr).alloc (.cells #[.int .i64 (C:Int),.slice ba 32 bc] 71))
 have hnq:u3.ownBlock≠some bq:=fun e=>by have:=(hA.row.lt bq e).2;have:=hbq.out;omega
 rw [hbq.out] at BQ
 have kA:Calls Tryz.prog 113 #[u3,.int .i64 2,.slice (some ⟨(wr.alloc (.cells #[.int .i64 (C:Int),.slice ba 32 bc] 71)).heap.size,0,none⟩) 1 1] ((wr.alloc (.cells #[.int .i64 (C:Int),.slice ba 32 bc] 71)).alloc (.cells #[.int .i64 (C:Int)] 3)) _ :=
  acc_put 2 (by omega) [C] 1 hA1 (by intro m hm;simp at hm;omega) (by simp;omega)
 have hzA:=World.size_alloc wr (.cells #[.int .i64 (C:Int),.slice ba 32 bc] 71)
 rw [hzA,hbq.out] at kA
 go_wp2_with fail
 rw [hbq.out]
 refine kA.mono ?_
 rintro e w6 ⟨u6,rfl,hA6,hn6,hf6⟩
 clear kA q0 q1
 generalize wr.alloc (.cells #[.int .i64 (C:Int),.slice ba 32 bc] 71)=A at *
 have BQ6:=BQ.fr hf6 (fun hm=>hnq (by simpa using hm))
 have cq:=BQ6.cell
 obtain ⟨P7,hP7⟩:∃z,Hid (P6++[C].flatMap (numL 2)=z):=⟨_,hidIt rfl⟩
 have hl7:P7.length≤P6.length+2:=by rw [←hP7.out];simp [numL_length]
 rw [hP7.out] at hA6
 have g6:SlY w6 (.slice ba 32 bc) bs:=SlF.fr0 g1 hA6.fr
 have hcv:=conv_str g6
 have kB:Calls Tryz.prog 115 #[u6,strL bs,.int .i64 2] w6 _:=acc_text 2 (by omega) hA6 (by rw [hi2.2];decide) (by omega) (by omega)
 obtain ⟨S2,hS2⟩:∃S,Hid (strL bs=Value.string S):=⟨_,hidIt rfl⟩
 rw [hS2.out] at hcv kB
 go_wp2_with fail
 refine kB.mono ?_
 rintro e w7 ⟨u7,rfl,hA7,hn7,hf7⟩
 clear kB cq hcv
 have hP8:Hid (P7++numL 2 bs.length++bs=P5++(unP (xs.take (j+1))).flatMap pcB):=hidIt (by
  rw [htj.out,←List.append_assoc,hP6.out,←hP7.out]
  unfold pcB
  simp)
 have hfin:=hidIt hA7
 clear hA7 hA6 hf7 hf6 hn7 hn6 BQ6 BQ hnq hA hA1 g6 g1 htj hP6 hP7
 go_wp2
 go_roundw
 case rel=>exact ⟨j+1,by omega,by go_num,by rw [←hP8.out];exact hfin.out⟩
 case measure=>simp [intOf];omega
end
end Go.Proofs.YtffnihooekbcnaaGreat
namespace Go.Proofs.YtffnihooekbcnaaGreat
open Go.RowKit Go.Maps
def arV (x:By):Value:=.agg (x.map fun b=>Value.int .u8 (b.toNat:Int)).toArray
def secM (f:Nat→Option By):Value→Option Value:=fun x=>match x with | .int .i64 k=>if 0≤k then (f k.toNat).map arV else none | _=>none
theorem secM_int (f:Nat→Option By) (k:Nat):secM f (.int .i64 (k:Int))=(f k).map arV:=by
 show (if 0≤(k:Int) then (f (k:Int).toNat).map arV else none)=_
 rw [if_pos (by omega),Int.toNat_natCast]
theorem secM_none:secM (fun _=>none)=fun _=>none:=by
 funext x
 unfold secM
 split
 ·split <;> rfl
 ·rfl
def putS (f:Nat→Option By) (k:Nat) (x:By):Nat→Option By:=fun j=>if j=k then some x else f j
theorem secM_put (f:Nat→Option By) (k:Nat) (x:By):upd (secM f) (.int .i64 (k:Int)) (some (arV x))=secM (putS f k x):=by
 funext y
 unfold upd
 by_cases e:y=.int .i64 (k:Int)
 ·subst e
  rw [if_pos rfl,secM_int]
  simp [putS]
 ·rw [if_neg e]
  unfold secM
  split
  ·rename_i j
   split
   ·rename_i h
    have:j.toNat≠k:=fun h1=>e (by rw [←h1,Int.toNat_of_nonneg h])
    simp [putS,this]
   ·rfl
  ·rfl
def secF (f:Nat→Option By) (k:Nat):By:=(f k).getD (zBy 16)
def secsF (f:Nat→Option By) (a l:Nat):By:=(List.range l).flatMap fun i=>secF f (a+i)
theorem secsF_succ (f:Nat→Option By) (a l:Nat):secsF f a (l+1)=secsF f a l++secF f (a+l):=by
 unfold secsF
 rw [List.range_succ,List.flatMap_append]
 simp
structure OkS (N:Nat) (f:Nat→Option By):Prop where
 sup:∀k x,f k=some x→k<N∧x.length=16
theorem OkS.len {N:Nat} {f:Nat→Option By} (h:OkS N f) (k:Nat):(secF f k).length=16:=by
 unfold secF
 cases e:f k with
 | none=>simp [zBy]
 | some x=>exact (h.sup k x e).2
theorem OkS.secs {N:Nat} {f:Nat→Option By} (h:OkS N f) (a l:Nat):(secsF f a l).length=l*16:=by
 induction l with
 | zero=>simp [secsF]
 | succ l ih=>rw [secsF_succ,List.length_append,ih,h.len,Nat.add_mul,Nat.one_mul]
theorem OkS.none (N:Nat):OkS N fun _=>none:=⟨fun _ _ h=>by cases h⟩
theorem OkS.put {N:Nat} {f:Nat→Option By} (h:OkS N f) {k:Nat} (hk:k<N) {x:By} (hx:x.length=16):OkS N (putS f k x):=⟨fun j y hj=>by
 unfold putS at hj
 split at hj
 ·rename_i e;cases hj;exact ⟨by rw [e];exact hk,hx⟩
 ·exact h.sup j y hj⟩
theorem len16 {x:By} (h:x.length=16):∃b0 b1 b2 b3 b4 b5 b6 b7 b8 b9 b10 b11 b12 b13 b14 b15,x=[b0,b1,b2,b3,b4,b5,b6,b7,b8,b9,b10,b11,b12,b13,b14,b15]:=by
 match x,h with
 | [b0,b1,b2,b3,b4,b5,b6,b7,b8,b9,b10,b11,b12,b13,b14,b15],_=>exact ⟨b0,b1,b2,b3,b4,b5,b6,b7,b8,b9,b10,b11,b12,b13,b14,b15,rfl⟩
def SecW (w:World) (m N:Nat) (f:Nat→Option By):Prop:=OkS N f∧∃es clock,mapAt w m=some (es,clock)∧IsM Tryz.prog 3 es clock (secM f)
section
variable {w w':World} {m N:Nat} {f:Nat→Option By}
theorem SecW.fr {M:List Nat} (h:SecW w m N f) (hf:Fr M w w') (hm:m ∉ M):SecW w' m N f:=by
 obtain ⟨h0,es,c,h1,h2⟩:=h
 exact ⟨h0,es,c,mapAt_fr h1 hf hm,h2⟩
theorem SecW.fr0 (h:SecW w m N f) (hf:Fr [] w w'):SecW w' m N f:=h.fr hf (by simp)
theorem SecW.lt (h:SecW w m N f):m<w.heap.size:=by obtain ⟨_,es,c,h1,_⟩:=h;exact mapAt_lt h1
theorem SecW.new (w:World) (N:Nat):SecW (w.alloc (Obj.map #[] 0)) w.heap.size N fun _=>none:=⟨OkS.none N,#[],0,by rw [mapAt_some];exact heap_alloc_new w _,by rw [secM_none];exact IsM.empty⟩
theorem SecW.look (h:SecW w m N f) (c:Bool) {k:Nat} (hk:k<1000000) (hz:(zeroValue 233).run Tryz.prog w=.ok (arV (zBy 16)) w) :
 (Instr.lookup 228 (.map (some m)) (.int .i64 (k:Int)) c).run Tryz.prog w=.ok (if c then .tuple #[arV (secF f k),.bool (f k).isSome] else arV (secF f k)) w:=by
 obtain ⟨_,es,cl,hm,hi⟩:=h
 rw [run_lookup_isM (z:=arV (zBy 16)) Tryz.underlying228 bKeyInt hi c (bKeyI (by omega) (by omega)) w hz hm,secM_int]
 unfold secF
 cases f k <;> rfl
theorem SecW.put (h:SecW w m N f) {k:Nat} (hk:k<N) (hN:N≤4096) {x:By} (hx:x.length=16) :
 ∃w',(Instr.mapUpdate 228 (.map (some m)) (.int .i64 (k:Int)) (arV x)).run Tryz.prog w=.ok () w'∧SecW w' m N (putS f k x)∧Fr [m] w w':=by
 obtain ⟨h0,es,c,hm,hi⟩:=h
 obtain ⟨es',c',hr,hi'⟩:=run_mapUpdate_isM (P:=Tryz.prog) Tryz.underlying228 bKeyInt hi (bKeyI (k:=(k:Int)) (by omega) (by omega)) (arV x) w hm
 rw [secM_put] at hi'
 exact ⟨_,hr,⟨h0.put hk hx,es',c',mapAt_putMap (mapAt_lt hm) es' c',hi'⟩,putMap_fr w m es' c'⟩
theorem SecW.size (h:SecW w m N f):∃n:Nat,n≤N∧∀(ty:TypeId) ,(Builtin.len_ #[228] ty #[.map (some m)]).run Tryz.prog w=.ok (.int .i64 (n:Int)) w:=by
 obtain ⟨h0,es,c,hm,hi⟩:=h
 have hs:=hi.size (ks:=((List.range N).filter fun k=>(f k).isSome).map fun (k:Nat)=>Value.int .i64 (k:Int)) ?_ ?_
 ·refine ⟨es.size,?_,fun ty=>run_len_map Tryz.underlying228 w hm⟩
  rw [hs,List.length_map]
  exact Nat.le_trans (List.length_filter_le _ _) (by simp)
 ·rw [List.pairwise_map]
  exact (List.nodup_range.filter _).imp fun {a b} h e=>h (by injection e with _ e;omega)
 ·intro x
  rw [List.mem_map]
  constructor
  ·rintro ⟨k,hk,rfl⟩
   rw [secM_int]
   have:=(List.mem_filter.1 hk).2
   cases e:f k with
   | none=>rw [e] at this;cases this
   | some y=>rfl
  ·intro hx
   unfold secM at hx
   split at hx
   ·rename_i j
    split at hx
    ·rename_i hj
     cases e:f j.toNat with
     | none=>rw [e] at hx;cases hx
     | some y=>exact ⟨j.toNat,List.mem_filter.2 ⟨List.mem_range.2 (h0.sup _ y e).1,by rw [e];rfl⟩,by rw [Int.toNat_of_nonneg hj]⟩
    ·cases hx
   ·cases hx
end
structure StoW (w:World) (sb sm nm:Nat) (v:Value) (N:Nat) (f g:Nat→Option By):Prop where
 blk:Blk w sb [.int .i64 (N:Int),.int .i64 4096,.map (some sm),.map (some nm),v] 231
 safe:SecW w sm N f
 seen:SecW w nm N g
 ne:sm≠nm∧sb≠sm∧sb≠nm
section
variable {w w':World} {sb sm nm N:Nat} {v:Value} {f g:Nat→Option By}
theorem StoW.fr {M:List Nat} (h:StoW w sb sm nm v N f g) (hf:Fr M w w') (h1:sb ∉ M) (h2:sm ∉ M) (h3:nm ∉ M):StoW w' sb sm nm v N f g :=
 ⟨h.blk.fr hf h1,h.safe.fr hf h2,h.seen.fr hf h3,h.ne⟩
theorem StoW.fr0 (h:StoW w sb sm nm v N f g) (hf:Fr [] w w'):StoW w' sb sm nm v N f g:=h.fr hf (by simp) (by simp) (by simp)
theorem StoW.lt (h:StoW w sb sm nm v N f g):sb<w.heap.size∧sm<w.heap.size∧nm<w.heap.size:=⟨h.blk.lt,h.safe.lt,h.seen.lt⟩
end
end Go.Proofs.YtffnihooekbcnaaGreat
namespace Go.Proofs.YtffnihooekbcnaaGreat
open Go.RowKit Go.Maps
attribute [local go_sem] mapAt_alloc mapAt_setCell mapAt_drew mapAt_drewN
section
variable {w w':World} {sb sm nm N:Nat} {v:Value} {f g:Nat→Option By}
theorem stRight_calls (hN:N≤4096):Calls Tryz.prog 219 #[.int .i64 (N:Int)] w fun e w'=>e=.returned (.bool true)∧w=w':=by
 have h1:decide ((0:Int)≤(N:Int))=true:=decide_eq_true (by omega)
 have h2:decide ((N:Int)≤4096)=true:=decide_eq_true (by omega)
 go_enter Tryz.func219,Tryz.ntmps219
 go_wp2
 go_ret
 simp
def stNewPost (w:World) (N:Nat) (e:Ending) (w':World):Prop:=∃sb sm nm,e=.returned (.tuple #[.pointer (some ⟨sb,0,none⟩),.int .i64 0])∧StoW w' sb sm nm (.slice none 0 0) N (fun _=>none) (fun _=>none)∧(w.heap.size≤sb∧w.heap.size≤sm∧w.heap.size≤nm)∧Fr [] w w'
theorem stNew_calls (w:World) (hN:N≤4096):Calls Tryz.prog 197 #[.int .i64 (N:Int),.int .i64 4096] w (stNewPost w N):=by
 have hmm:=@run_makeMap Tryz.prog
 have kR:=stRight_calls (w:=w) hN
 go_enter Tryz.func197,Tryz.ntmps197
 go_wp2_with fail
 refine kR.mono ?_
 rintro e w1 ⟨rfl,rfl⟩
 clear kR
 go_wp2
 go_ret2
 refine ⟨w.heap.size+1+1,w.heap.size,w.heap.size+1,rfl,⟨?_,?_,?_,by omega⟩,by omega,(((Fr.refl [] w).alloc _).alloc _).alloc _⟩
 ·exact Blk.new' (by simp) [.int .i64 (N:Int),.int .i64 4096,.map (some w.heap.size),.map (some (w.heap.size+1)),.slice none 0 0] _
 ·exact (SecW.new w N).fr0 (((Fr.refl [] _).alloc _).alloc _)
 ·have:=SecW.new (w.alloc (Obj.map #[] 0)) N
  simp only [World.size_alloc] at this
  exact this.fr0 ((Fr.refl [] _).alloc _)
theorem stLen_calls (h:StoW w sb sm nm v N f g):Calls Tryz.prog 216 #[.pointer (some ⟨sb,0,none⟩)] w fun e w'=>e=.returned (.int .i64 (N:Int))∧w'=w:=by
 have c:=h.blk.cell
 go_enter Tryz.func216,Tryz.ntmps216
 go_wp2
 go_ret
 exact ⟨rfl,rfl⟩
theorem stUsed_calls (h:StoW w sb sm nm v N f g):∃n:Nat,n≤N∧Calls Tryz.prog 252 #[.pointer (some ⟨sb,0,none⟩)] w fun e w'=>e=.returned (.int .i64 (n:Int))∧w'=w:=by
 have c:=h.blk.cell
 obtain ⟨n,hn,hr⟩:=h.seen.size
 refine ⟨n,hn,?_⟩
 go_enter Tryz.func252,Tryz.ntmps252
 go_wp2
 go_ret
 exact ⟨rfl,rfl⟩
theorem stInside_calls (a l:Nat) (h:StoW w sb sm nm v N f g) (hal:a+l≤N) (hN:N≤4096):Calls Tryz.prog 250 #[.pointer (some ⟨sb,0,none⟩),.int .i64 (a:Int),.int .i64 (l:Int)] w fun e w'=>e=.returned (.bool true)∧w'=w:=by
 have c:=h.blk.cell
 have h1:decide ((0:Int)≤(a:Int))=true:=decide_eq_true (by omega)
 have h2:decide ((l:Int)≤(N:Int))=true:=decide_eq_true (by omega)
 have hw:IntKind.i64.wrap ((N:Int) - (l:Int))=(N:Int) - (l:Int):=IntWalk.i64_in _ (by omega)
 have h3:decide ((a:Int)≤(N:Int) - (l:Int))=true:=decide_eq_true (by omega)
 go_enter Tryz.func250,Tryz.ntmps250
 go_wp2
 go_ret
 exact ⟨by simp,rfl⟩
end
theorem CloneSec_calls (b:Nat) (es:Array MapEntry) (clock:Nat) (w:World) (hm:mapAt w b=some (es,clock)) :
 Calls Tryz.prog 161 #[.map (some b)] w fun e w'=>e=.returned (.map (some w.heap.size))∧w'=w.alloc (.map es clock):=by
 have hb:=mapAt_some.1 hm
 have hq:=fun w=>run_eql_map_nil_sl (P:=Tryz.prog) w 228 _ _ (some b) Tryz.underlying228
 go_enter Tryz.func161,Tryz.ntmps161
 go_wp2
 rw [run_callFunc_extern Tryz.func184 (by kernel_rfl) (by kernel_rfl) (by kernel_rfl) (e:=Extern.MapsClone.clone) (by kernel_rfl),run_maps_clone_sl w 228 hb]
 simp only [Result.andThen]
 rw [Oper.upon_value]
 go_wp2
 rw [run_typeAssert_map_sl _ 228 20 _ _ _ Tryz.underlying228]
 simp only [Result.andThen]
 rw [Oper.upon_value]
 go_wp2
 go_ret
 exact ⟨rfl,rfl⟩
section
variable {w w':World} {sb sm nm N:Nat} {v:Value} {f g:Nat→Option By}
theorem stFlush_calls (h:StoW w sb sm nm v N f g):Calls Tryz.prog 221 #[.pointer (some ⟨sb,0,none⟩)] w fun e w'=>e=.returned (.tuple #[])∧StoW w' sb w.heap.size nm (.slice none 0 0) N g g∧Fr [sb] w w':=by
 have c:=h.blk.cell
 obtain ⟨h0,es,clock,hm,hi⟩:=h.seen
 have kC:=CloneSec_calls nm es clock w hm
 have hlt:=h.lt
 have hne:=h.ne
 have hfa:=(Fr.refl [] w).alloc (.map es clock)
 have B1:=h.blk.fr0 hfa
 have S1:SecW (w.alloc (.map es clock)) w.heap.size N g:=⟨h0,es,clock,by rw [mapAt_some];exact heap_alloc_new w _,hi⟩
 have G1:=h.seen.fr0 hfa
 have hz:(w.alloc (.map es clock)).heap.size=w.heap.size+1:=World.size_alloc _ _
 clear h hm hi h0
 go_enter Tryz.func221,Tryz.ntmps221
 go_wp2_with fail
 refine kC.mono ?_
 rintro e w1 ⟨rfl,hw1⟩
 rw [hw1]
 clear hw1 w1 kC
 generalize w.alloc (.map es clock)=w1 at *
 have c1:=B1.cell
 have f1:=B1.frozen
 have l1:=B1.lt
 have B2:=(B1.setCell 2 (.map (some w.heap.size))).setCell 4 (.slice none 0 0)
 have F2:=(((Fr.refl [sb] w1).setCell (p:=⟨sb,2,none⟩) (.inl (by simp)) (.map (some w.heap.size)))).setCell (p:=⟨sb,4,none⟩) (.inl (by simp)) (.slice none 0 0)
 have hfin:=hidIt (And.intro B2 F2)
 clear B2 F2
 go_wp2_with fail
 refine bodyPost_end (v:=.tuple #[]) (results_none rfl _ _ _) rfl ⟨rfl,⟨hfin.out.1,?_,?_,?_⟩,?_⟩
 ·exact S1.fr hfin.out.2 (by simp;omega)
 ·exact G1.fr hfin.out.2 (by simp;omega)
 ·omega
 ·exact (hfa.weak).trans' hfin.out.2
theorem stCrash_calls (h:StoW w sb sm nm (.slice none 0 0) N f g):Calls Tryz.prog 106 #[.pointer (some ⟨sb,0,none⟩),.slice none 0 0] w fun e w'=>e=.returned (.tuple #[])∧∃nm',w.heap.size≤nm'∧StoW w' sb sm nm' (.slice none 0 0) N f f∧Fr [sb] w w':=by
 obtain ⟨W0,hW0⟩:∃W0,Hid (w.alloc (Obj.cells #[.slice none 0 0] 167)=W0):=⟨_,hidIt rfl⟩
 have hF0:Fr [] w W0:=by rw [←hW0.out];exact (Fr.refl [] w).alloc _
 have hz0:=hF0.size
 have h0:=h.fr0 hF0
 have c:=h.blk.cell
 have l0:=h.blk.lt
 have c0:=h0.blk.cell
 obtain ⟨hk,es,clock,hm,hi⟩:=h0.safe
 have kC:=CloneSec_calls sm es clock W0 hm
 have hlt:=h0.lt
 have hlt0:=h.lt
 have hne:=h.ne
 have hfa:=(Fr.refl [] W0).alloc (.map es clock)
 have B1:=h0.blk.fr0 hfa
 have S1:SecW (W0.alloc (.map es clock)) W0.heap.size N f:=⟨hk,es,clock,by rw [mapAt_some];exact heap_alloc_new W0 _,hi⟩
 have G1:=h0.safe.fr0 hfa
 clear h h0 hm hi hk
 go_enter Tryz.func106,Tryz.ntmps106
 go_wp2_with fail
 rw [hW0.out]
 go_loopw [13] (fun i wr=>i=.int .i64 0∧wr=W0) (fun _ _=>0)
 case atStart=>exact ⟨rfl,rfl⟩
 case round =>
 obtain ⟨rfl,rfl⟩:=hrel
 clear hW0
 go_wp2_with fail
 refine kC.mono ?_
 rintro e w1 ⟨rfl,hw1⟩
 rw [hw1]
 clear hw1 w1 kC
 generalize wr.alloc (.map es clock)=w1 at *
 have c1:=B1.cell
 have f1:=B1.frozen
 have l1:=B1.lt
 have B2:=(B1.setCell 3 (.map (some wr.heap.size))).setCell 4 (.slice none 0 0)
 have F2:=(((Fr.refl [sb] w1).setCell (p:=⟨sb,3,none⟩) (.inl (by simp)) (.map (some wr.heap.size)))).setCell (p:=⟨sb,4,none⟩) (.inl (by simp)) (.slice none 0 0)
 have hfin:=hidIt (And.intro B2 F2)
 clear B2 F2
 go_wp2_with fail
 refine bodyPost_end (v:=.tuple #[]) (results_none rfl _ _ _) rfl ⟨rfl,wr.heap.size,hz0,⟨hfin.out.1,?_,?_,?_⟩,?_⟩
 ·exact G1.fr hfin.out.2 (by simp;omega)
 ·exact S1.fr hfin.out.2 (by simp;omega)
 ·omega
 ·exact ((hF0.trans0 hfa).weak).trans' hfin.out.2
end
theorem Sl.of_blk {w:World} {b:Nat} {cs:List Value} {t:TypeId} (h:Blk w b cs t) (hl:cs.length≤maxLen):Sl w (.slice (some ⟨b,0,none⟩) cs.length cs.length) cs.length cs :=
 ⟨_,cs.length,rfl,Nat.le_refl _,hl,.inr ⟨b,0,rfl,h.lt,fun j u hu=>by rw [Nat.zero_add,h.cell];exact hu⟩⟩
section
variable {w w':World} {sb sm nm N:Nat} {v:Value} {f g:Nat→Option By}
theorem stRead_calls (a l:Nat) (h:StoW w sb sm nm v N f g) (hal:a+l≤N) (hN:N≤4096):Calls Tryz.prog 213 #[.pointer (some ⟨sb,0,none⟩),.int .i64 (a:Int),.int .i64 (l:Int)] w
 fun e w'=>∃u,e=.returned (.tuple #[u,.int .i64 0])∧SlY w' u (secsF g a l)∧okV u∧(∀k,u.ownBlock=some k→w.heap.size≤k)∧Fr [] w w':=by
 have kI:=stInside_calls a l h hal hN
 have hl0:¬(l:Int)<0:=by omega
 go_enter Tryz.func213,Tryz.ntmps213
 go_wp2_with fail
 refine kI.mono ?_
 rintro e w1 ⟨rfl,rfl⟩
 clear kI
 go_wp2_with fail
 go_loopw [8,21] (fun u i wr=>∃k:Nat,k≤l∧i=.int .i64 (k:Int)∧wr.ownsRow w1.heap.size 5 1 u (secsF g a k).length ((secsF g a k).flatMap byC)∧Fr [] w1 wr) (fun _ i _=>l - (intOf i).toNat)
 case atStart=>exact ⟨0,Nat.zero_le _,rfl,World.ownsRow_nil _ _ _ _,Fr.refl _ _⟩
 case round =>
 obtain ⟨k,hk,rfl,hown,hF⟩:=hrel
 by_cases hlt:k<l
 case neg =>
  have hke:k=l:=by omega
  subst hke
  go_wp2
  go_ret2
  exact ⟨_,rfl,SlF.of_owns hown,okV.of_owns hown,own_base hown,hF⟩
 have hr:=h.fr0 hF
 have c:=hr.blk.cell
 have hlk:=hr.seen.look false (k:=a+k) (by omega) (by kernel_rfl)
 have Hst:=hidIt (secsF_succ g a k)
 obtain ⟨b0,b1,b2,b3,b4,b5,b6,b7,b8,b9,b10,b11,b12,b13,b14,b15,hx⟩:=len16 (hr.seen.1.len (a+k))
 rw [hx] at hlk Hst
 have e1:arV [b0,b1,b2,b3,b4,b5,b6,b7,b8,b9,b10,b11,b12,b13,b14,b15]=.agg #[.int .u8 b0.toNat,.int .u8 b1.toNat,.int .u8 b2.toNat,.int .u8 b3.toNat,.int .u8 b4.toNat,.int .u8 b5.toNat,.int .u8 b6.toNat,.int .u8 b7.toNat,.int .u8 b8.toNat,.int .u8 b9.toNat,.int .u8 b10.toNat,.int .u8 b11.toNat,.int .u8 b12.toNat,.int .u8 b13.toNat,.int .u8 b14.toNat,.int .u8 b15.toNat]:=rfl
 rw [e1,Int.natCast_add] at hlk
 simp only [Bool.false_eq_true,if_false] at hlk
 have hwr:IntKind.i64.wrap ((a:Int)+(k:Int))=(a:Int)+(k:Int):=IntWalk.i64_in _ (by omega)
 clear hx e1
 go_wp2_with (at_builtin;refine Hid.out ?_)
 refine hidIt ?_
 have B1:=Blk.new wr [.int .u8 (b0.toNat:Int),.int .u8 (b1.toNat:Int),.int .u8 (b2.toNat:Int),.int .u8 (b3.toNat:Int),.int .u8 (b4.toNat:Int),.int .u8 (b5.toNat:Int),.int .u8 (b6.toNat:Int),.int .u8 (b7.toNat:Int),.int .u8 (b8.toNat:Int),.int .u8 (b9.toNat:Int),.int .u8 (b10.toNat:Int),.int .u8 (b11.toNat:Int),.int .u8 (b12.toNat:Int),.int .u8 (b13.toNat:Int),.int .u8 (b14.toNat:Int),.int .u8 (b15.toNat:Int)] 233
 have hF1:=(Fr.refl [] wr).alloc (.cells #[.int .u8 (b0.toNat:Int),.int .u8 (b1.toNat:Int),.int .u8 (b2.toNat:Int),.int .u8 (b3.toNat:Int),.int .u8 (b4.toNat:Int),.int .u8 (b5.toNat:Int),.int .u8 (b6.toNat:Int),.int .u8 (b7.toNat:Int),.int .u8 (b8.toNat:Int),.int .u8 (b9.toNat:Int),.int .u8 (b10.toNat:Int),.int .u8 (b11.toNat:Int),.int .u8 (b12.toNat:Int),.int .u8 (b13.toNat:Int),.int .u8 (b14.toNat:Int),.int .u8 (b15.toNat:Int)] 233)
 have hfl:([b0,b1,b2,b3,b4,b5,b6,b7,b8,b9,b10,b11,b12,b13,b14,b15]:By).flatMap byC=[.int .u8 (b0.toNat:Int),.int .u8 (b1.toNat:Int),.int .u8 (b2.toNat:Int),.int .u8 (b3.toNat:Int),.int .u8 (b4.toNat:Int),.int .u8 (b5.toNat:Int),.int .u8 (b6.toNat:Int),.int .u8 (b7.toNat:Int),.int .u8 (b8.toNat:Int),.int .u8 (b9.toNat:Int),.int .u8 (b10.toNat:Int),.int .u8 (b11.toNat:Int),.int .u8 (b12.toNat:Int),.int .u8 (b13.toNat:Int),.int .u8 (b14.toNat:Int),.int .u8 (b15.toNat:Int)]:=rfl
 have hown1:=owns_fr hown hF1 (by simp)
 have hz:=hF.size
 have hb0:=own_base hown
 have hsl:=h.seen.1.secs a k
 generalize secsF g a k=pre at *
 refine wpList_append_slL 31 5 (.int .u8 0) 1 1 Tryz.underlying31 infoY rfl (by decide) (by decide) rfl _ _ rfl w1.heap.size u8 pre.length _ rfl hown1 _ 16 [.int .u8 (b0.toNat:Int),.int .u8 (b1.toNat:Int),.int .u8 (b2.toNat:Int),.int .u8 (b3.toNat:Int),.int .u8 (b4.toNat:Int),.int .u8 (b5.toNat:Int),.int .u8 (b6.toNat:Int),.int .u8 (b7.toNat:Int),.int .u8 (b8.toNat:Int),.int .u8 (b9.toNat:Int),.int .u8 (b10.toNat:Int),.int .u8 (b11.toNat:Int),.int .u8 (b12.toNat:Int),.int .u8 (b13.toNat:Int),.int .u8 (b14.toNat:Int),.int .u8 (b15.toNat:Int)] (Sl.of_blk B1 (by simp [maxLen])) (fun n cap e=>by cases e) rfl (by intro y hy;simp at hy;rcases hy with rfl | rfl | rfl | rfl | rfl | rfl | rfl | rfl | rfl | rfl | rfl | rfl | rfl | rfl | rfl | rfl <;> rfl) rfl (by omega) (by omega) (by simp;omega) ?_
 intro v' w2 hown2 hgrow hloc
 have hF2:Fr [] w1 w2:=(hF.alloc _).grown hgrow (fun y hy=>.inr (hb0 y hy))
 have e2:pre.length+16=(secsF g a (k+1)).length:=by rw [Hst.out];simp
 rw [←hfl,←List.flatMap_append,e2,←Hst.out] at hown2
 clear hlk c e2 hfl hown hown1 B1 hF1 hgrow hloc Hst
 go_wp2
 go_roundw
 case rel=>exact ⟨k+1,by omega,by go_num,hown2,hF2⟩
 case measure=>simp [intOf];omega
end
end Go.Proofs.YtffnihooekbcnaaGreat
namespace Go.Proofs.YtffnihooekbcnaaGreat
open Go.RowKit Go.Maps
theorem smStep_calls (ab bb a b:Nat) (c:UInt8) (w:World) (ha:Blk w ab [.int .i64 (a:Int)] 3) (hb:Blk w bb [.int .i64 (b:Int)] 3) (hal:a<65521) (hbl:b<65521) :
 Calls Tryz.prog 251 #[.int .u8 (c.toNat:Int),.pointer (some ⟨ab,0,none⟩),.pointer (some ⟨bb,0,none⟩)] w fun e w'=>e=.returned (.tuple #[.int .i64 (((smS (a,b) c).1:Nat):Int),.int .i64 (((smS (a,b) c).2:Nat):Int)])∧Fr [] w w':=by
 have c1:=ha.cell
 have c2:=hb.cell
 have hc:=c.toNat_lt
 have hx:IntKind.i64.wrap ((a:Int)+(c.toNat:Int))=(a:Int)+(c.toNat:Int):=IntWalk.i64_in _ (by omega)
 go_enter Tryz.func251,Tryz.ntmps251
 go_wp2_with fail
 go_quiet (fail)
 go_wp2
 go_ret2
 refine ⟨?_,(Fr.refl [] w).drewN _⟩
 unfold smS
 simp only [Int.natCast_emod,Int.natCast_add]
 rfl
theorem smL_take {b:By} {j:Nat} (h:j<b.length):smL (b.take (j+1))=smS (smL (b.take j)) (b.getD j 0):=by
 rw [List.take_succ_eq_append_getElem h,smL_snoc,List.getD_eq_getElem?_getD,List.getElem?_eq_getElem h]
 rfl
theorem sumOf_calls (lb:Nat) (v:Value) (b:By) (w:World) (hl:Blk w lb [v] 31) (hv:SlY w v b) :
 Calls Tryz.prog 218 #[.slice (some ⟨lb,0,none⟩) 1 1] w fun e w'=>e=.returned (.int .i64 (sumN b:Int))∧Fr [] w w':=by
 obtain ⟨a,cap,rfl,hlc,hcm,_⟩:=SlF.open hv
 unfold maxLen at hcm
 obtain ⟨W1,hW1⟩:∃W1,Hid ((w.alloc (Obj.cells #[.int .i64 1] 3)).alloc (Obj.cells #[.int .i64 0] 3)=W1):=⟨_,hidIt rfl⟩
 obtain ⟨bb,hbb⟩:∃x,Hid (w.heap.size+1=x):=⟨_,hidIt rfl⟩
 obtain ⟨ab,hab⟩:∃x,Hid (w.heap.size=x):=⟨_,hidIt rfl⟩
 have hne:ab≠bb:=by have:=hab.out;have:=hbb.out;omega
 have hF1:Fr [] w W1:=by rw [←hW1.out];exact ((Fr.refl [] w).alloc _).alloc _
 have A1:Blk W1 ab [.int .i64 (((smL []).1:Nat):Int)] 3:=by
  rw [←hW1.out]
  exact (Blk.new' hab.out.symm [.int .i64 1] _).alloc _
 have B1:Blk W1 bb [.int .i64 (((smL []).2:Nat):Int)] 3:=by
  rw [←hW1.out]
  exact Blk.new' (by simp only [World.size_alloc];exact hbb.out.symm) [.int .i64 0] _
 go_enter Tryz.func218,Tryz.ntmps218
 go_wp2_with fail
 rw [hW1.out,hbb.out,hab.out]
 have hfa:w.heap.size≤ab:=by rw [hab.out];exact Nat.le_refl _
 have hfb:w.heap.size≤bb:=by have:=hbb.out;omega
 clear hW1 hbb hab
 go_loopw [13] (fun i wr=>∃(k:Nat) (l:By),i=.int .i64 (k:Int)∧Hid ((k=0∧l=[])∨(k=1∧l=b))∧Blk wr ab [.int .i64 (((smL l).1:Nat):Int)] 3∧Blk wr bb [.int .i64 (((smL l).2:Nat):Int)] 3∧Fr [] w wr) (fun i _=>1 - (intOf i).toNat)
 case atStart=>exact ⟨0,[],rfl,hidIt (.inl ⟨rfl,rfl⟩),A1,B1,hF1⟩
 clear A1 B1 hF1
 case round =>
  obtain ⟨k,l,rfl,hk,hA,hB,hF⟩:=hrel
  have cA:=hA.cell
  have cB:=hB.cell
  rcases hk.out with ⟨rfl,rfl⟩ | ⟨rfl,rfl⟩
  ·have c0:=(hl.fr0 hF).cell
   have hv1:=SlF.fr0 hv hF
   go_wp2_with fail
   clear c0
   generalize wr=wq at *
   go_loopw [19] (fun j wr=>∃j':Nat,j'≤b.length∧j=.int .i64 (j':Int)∧Blk wr ab [.int .i64 (((smL (b.take j')).1:Nat):Int)] 3∧Blk wr bb [.int .i64 (((smL (b.take j')).2:Nat):Int)] 3∧Fr [] w wr) (fun j _=>b.length - (intOf j).toNat)
   case atStart=>exact ⟨0,Nat.zero_le _,rfl,hA,hB,hF⟩
   clear cA cB hA hB hF hv1
   case round =>
    obtain ⟨j,hj,rfl,hA,hB,hF⟩:=hrel
    by_cases hlt:j<b.length
    case neg =>
     have hje:j=b.length:=by omega
     subst hje
     rw [List.take_length] at hA hB
     clear hlt
     go_wp2
     go_roundw
     case rel=>exact ⟨1,b,rfl,hidIt (.inr ⟨rfl,rfl⟩),hA,hB,hF⟩
     case measure=>simp [intOf]
    obtain ⟨b',off',rfl,_,d1⟩:=SlY.at (SlF.fr0 hv hF) hlt
    have Hst:=hidIt (smL_take hlt)
    have hbd:=smL_lt (b.take j)
    generalize smL (b.take j)=q at *
    obtain ⟨q',hq'⟩:∃q',Hid (smL (b.take (j+1))=q'):=⟨_,hidIt rfl⟩
    rw [hq'.out] at Hst
    obtain ⟨qa,qb⟩:=q
    simp only at hA hB hbd
    generalize b.getD j 0=y at *
    have key:=smStep_calls ab bb qa qb y wr hA hB hbd.1 hbd.2
    rw [←Hst.out] at key
    go_wp2_with fail
    refine key.mono ?_
    rintro e w4 ⟨rfl,hf4⟩
    have A4:=hA.fr0 hf4
    have B4:=hB.fr0 hf4
    have a1:=A4.cell
    have a2:=A4.frozen
    have b1:=B4.cell
    have b2:=B4.frozen
    have A5:=(A4.setCell 0 (.int .i64 ((q'.1:Nat):Int))).other (p:=⟨bb,0,none⟩) hne (.int .i64 ((q'.2:Nat):Int))
    have B5:=(B4.other (p:=⟨ab,0,none⟩) (Ne.symm hne) (.int .i64 ((q'.1:Nat):Int))).setCell 0 (.int .i64 ((q'.2:Nat):Int))
    have F5:=((hF.trans0 hf4).setCell (p:=⟨ab,0,none⟩) (.inr hfa) (.int .i64 ((q'.1:Nat):Int))).setCell (p:=⟨bb,0,none⟩) (.inr hfb) (.int .i64 ((q'.2:Nat):Int))
    clear key hA hB d1 Hst A4 B4
    go_wp2
    go_roundw
    case rel=>exact ⟨j+1,by omega,by go_num,by rw [hq'.out];exact A5,by rw [hq'.out];exact B5,F5⟩
    case measure=>simp [intOf];omega
  ·have:=smL_lt l
   go_wp2
   go_ret
   refine ⟨?_,hF⟩
   exact congrArg (fun x=>Ending.returned (.int .i64 x)) (by unfold sumN;simp only [Int.natCast_add,Int.natCast_mul];rfl)
theorem sumSeal_calls (v:Value) (b:By) (w:World) (hv:SlY w v b) (hl:b.length≤1000) :
 Calls Tryz.prog 225 #[v] w fun e w'=>∃u,e=.returned u∧w'.ownsRow w.heap.size 5 1 u (sealB b).length ((sealB b).flatMap byC)∧Fr [] w w':=by
 obtain ⟨va,vc,rfl,_⟩:=SlF.open hv
 have kC:=CloneY_calls _ b w hv (by omega)
 have hlt:=sumN_lt b
 go_enter Tryz.func225,Tryz.ntmps225
 go_wp2_with fail
 refine kC.mono ?_
 rintro e w1 ⟨u,rfl,hu,hf1⟩
 clear kC
 have B1:=Blk.new w1 [.slice va b.length vc] 31
 have hF1:=(Fr.refl [] w1).alloc (.cells #[.slice va b.length vc] 31)
 have kO:=sumOf_calls w1.heap.size _ b _ B1 (SlF.fr0 hv (hf1.trans0 hF1))
 go_wp2_with fail
 refine kO.mono ?_
 rintro e w2 ⟨rfl,hf2⟩
 clear kO
 have hF2:=hF1.trans0 hf2
 have hz1:=hf1.size
 have hz2:=hF2.size
 have hu2:=owns_fr hu hF2 (by simp)
 go_wp2_with fail
 refine (Put_calls 4 (by omega) [sumN b] (by intro n hn;have:=List.mem_singleton.1 hn;subst this;exact hlt) w.heap.size _ b w2.heap.size 1 _ (hu2.alloc _) (by simp;omega) (by simp;omega) (Blk.new w2 [_] _) (fun x hx e=>by have:=(hu2.lt x hx).2;omega)).mono ?_
 rintro e w3 ⟨u3,rfl,hu3,hf3,_⟩
 have e1:b++[sumN b].flatMap (numL 4)=sealB b:=by simp [sealB]
 rw [e1] at hu3
 have hF3:Fr [] w w3:=(((hf1.trans0 hF2).alloc (.cells #[.int .i64 (sumN b:Int)] 3))).trans hf3 (fun x hx hl=>by have:=own_base hu x (by simpa using hx);omega)
 go_wp2
 go_ret
 exact ⟨_,rfl,hu3,hF3⟩
end Go.Proofs.YtffnihooekbcnaaGreat
