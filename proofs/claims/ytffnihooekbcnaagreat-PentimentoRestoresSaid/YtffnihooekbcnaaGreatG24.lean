/-
  copy of bytes into a row of bytes that is owned, as a fact for a walk.
-/
import Derived.Test.YtffnihooekbcnaaGreatG09
import Derived.Test.YtffnihooekbcnaaGreatG23
set_option maxRecDepth 100000
set_option maxHeartbeats 6400000
namespace Go.Proofs.YtffnihooekbcnaaGreat
open Go.RowKit Go.Maps
theorem copyY {w:World} {base g n cap off dl dc:Nat} {x l:By} {sv:Value} (hown:w.ownsRow base 5 1 (.slice (some ⟨g,0,none⟩) n cap) n (x.flatMap byC)) (hs:SlY w sv l) (hl:0<l.length) (hoff:off+dl≤n) :
 ∃w',(∀ty,(Builtin.copy_ #[31,31] ty #[.slice (some ⟨g,off,none⟩) dl dc,sv]).run Tryz.prog w=.ok (.int .i64 ((l.take dl).length:Int)) w')∧w'.ownsRow base 5 1 (.slice (some ⟨g,0,none⟩) n cap) n ((spl x off (l.take dl)).flatMap byC)∧Fr [g] w w':=by
 have hlen:((l.take dl).flatMap byC).length=(l.take dl).length:=flatY_length _
 have htl:(l.take dl).length≤dl:=List.length_take_le _ _
 obtain ⟨cur,hcur,hcl,hown9⟩:=owns_copy (cs:=(l.take dl).flatMap byC) (off:=off) hown (by rw [hlen];omega)
 obtain ⟨a,c,rfl,h1,h2,hc⟩:=hs
 rcases hc with hc | ⟨b,o,rfl,hb,hc⟩
 ·have:=congrArg List.length hc
  rw [flatY_length] at this
  simp at this
  subst this
  exact absurd hl (by simp)
 ·have hr:=fun ty=>run_copy_row (P:=Tryz.prog) w 31 31 ty 5 g off dl dc ⟨b,o,none⟩ l.length c cur _ ((l.take dl).flatMap byC) Tryz.underlying31 sizeY hcur (by rw [hlen,List.length_take];exact Nat.min_comm _ _) (fun j v hv=>by
   have hadd:(⟨b,o,none⟩:Addr).add j=⟨b,o+j,none⟩:=by unfold Addr.add;split <;> simp_all
   rw [hadd]
   refine hc j v ?_
   rw [←hv]
   have e:(l.take dl).flatMap byC=(l.flatMap byC).take dl:=by
    have:=flatk_take byC 1 (fun _=>rfl) l dl
    rw [Nat.mul_one] at this
    exact this.symm
   rw [e,List.getElem?_take]
   have hj:j<dl:=by
    have:=(List.getElem?_eq_some_iff.1 hv).1
    rw [hlen] at this
    omega
   rw [if_pos hj]) hcl (flat_one (fun _=>by_one) _)
  refine ⟨w.setRow g (cur.toList.take off++(l.take dl).flatMap byC++cur.toList.drop (off+((l.take dl).flatMap byC).length)).toArray,fun ty=>?_,?_,fr_setRow _ _⟩
  ·rw [hr ty,hlen]
   rfl
  ·rw [spl_flat,←hlen]
   exact hown9
end Go.Proofs.YtffnihooekbcnaaGreat
namespace Go.Proofs.YtffnihooekbcnaaGreat
open Go.RowKit Go.Maps
attribute [local go_sem] mapAt_alloc mapAt_setCell mapAt_drew mapAt_drewN
theorem spl_chunk (b:By) (i:Nat):spl (zBy 16) 0 ((b.drop (16*i)).take 16)=chunkB b i:=by
 unfold spl chunkB
 rw [List.take_zero,List.nil_append,Nat.zero_add]
 congr 1
 unfold zBy
 exact List.drop_replicate
structure SavB (w:World) (vb tb b0 sb base:Nat) (sv:Value) (xs:List (Value × Sop)):Prop where
 blk:Blk w vb [sv,.int .i64 0] 290
 tbx:Blk w tb [.pointer (some ⟨vb,0,none⟩)] 275
 box:Blk w b0 [.pointer (some ⟨sb,0,none⟩)] 165
 own:w.ownsRow base 81 1 sv xs.length (xs.map (·.1))
 steps:StepsW w (fun k=>base≤k∧k<w.heap.size∧sv.ownBlock≠some k) b0 xs
 lo:vb<base∧tb<base∧b0<base∧base≤w.heap.size∧tb≠vb∧b0≠vb
theorem SavB.fr0 {w w':World} {vb tb b0 sb base:Nat} {sv:Value} {xs:List (Value × Sop)} (h:SavB w vb tb b0 sb base sv xs) (hf:Fr [] w w'):SavB w' vb tb b0 sb base sv xs :=
 ⟨h.blk.fr0 hf,h.tbx.fr0 hf,h.box.fr0 hf,owns_fr h.own hf (by simp),fun x hx=>((h.steps x hx).fr hf (by simp)).mono fun k hk=>⟨hk.1,Nat.lt_of_lt_of_le hk.2.1 hf.size,hk.2.2⟩,by have:=h.lo;have:=hf.size;omega⟩
theorem SavB.more {w w':World} {vb tb b0 sb base:Nat} {sv sv' fv:Value} {xs:List (Value × Sop)} {o:Sop} (h:SavB w vb tb b0 sb base sv xs) (hB:Blk w' vb [sv',.int .i64 0] 290) (ho:w'.ownsRow base 81 1 sv' (xs.length+1) (xs.map (·.1)++[fv]))
 (hf:Fr (vb :: sv.ownBlock.toList) w w') (hob:∀y,sv'.ownBlock=some y→sv.ownBlock=some y∨w.heap.size≤y) (hst:StepW w' (fun k=>base≤k∧k<w'.heap.size∧sv'.ownBlock≠some k) b0 fv o):SavB w' vb tb b0 sb base sv' (xs++[(fv,o)]):=by
 obtain ⟨h1,h2,h3,h4,h5,h6⟩:=h.lo
 have hz:=hf.size
 have hno:∀k,k<base→k≠vb→k ∉ vb :: sv.ownBlock.toList:=fun k hk hv hm=>by
  rcases List.mem_cons.1 hm with rfl | hm
  ·exact hv rfl
  ·have:=own_base h.own k (by simpa using hm);omega
 refine ⟨hB,h.tbx.fr hf (hno _ h2 h5),h.box.fr hf (hno _ h3 h6),by rw [List.length_append,List.map_append];exact ho,fun x hx=>?_,by omega⟩
 rcases List.mem_append.1 hx with hx | hx
 ·refine ((h.steps x hx).fr hf fun k hk hP=>?_).mono fun k hk=>⟨hk.1,by omega,fun e=>?_⟩
  ·rcases List.mem_cons.1 hk with rfl | hk
   ·omega
   ·exact hP.2.2 (by simpa using hk)
  ·rcases hob k e with h9 | h9
   ·exact hk.2.2 h9
   ·have:=hk.2.1;omega
 ·rw [List.mem_singleton.1 hx]
  exact hst
theorem flat_fv {w:World} {base:Nat} {sv:Value} {xs:List (Value × Sop)} (h:w.ownsRow base 81 1 sv xs.length (xs.map (·.1))):SlF fvC w sv xs:=by
 refine SlF.of_owns (base:=base) (e:=81) (size:=1) ?_
 have:xs.flatMap fvC=xs.map (·.1):=by
  clear h
  induction xs with
  | nil=>rfl
  | cons x l ih=>rw [List.flatMap_cons,ih];rfl
 rw [this]
 exact h
section
variable {w w':World} {sb sm nm:Nat}
def saBeginPost (w:World) (sb:Nat) (b:By) (e:Ending) (w':World):Prop :=
 ∃vb b0 xs,e=.returned (.tuple #[.pointer (some ⟨vb,0,none⟩),.int .i64 0])∧w.heap.size≤vb∧SavW w' vb b0 sb (fun k=>w.heap.size≤k∧k<w'.heap.size∧k≠vb) xs∧xs.map (·.2)=saveO b∧Fr [] w w'
theorem saBegin_calls (b:By) (bv:Value) (h:StoW w sb sm nm (.slice none 0 0) 512 (fun _=>none) (fun _=>none)) (hbv:SlY w bv b) (hb:b.length≤4080) :
 Calls Tryz.prog 198 #[.pointer (some ⟨sb,0,none⟩),bv] w (saBeginPost w sb b):=by
 obtain ⟨va,vc,rfl,hvl,hvm,_⟩:=SlF.open hbv
 have hF0:Fr [] w (w.alloc (.cells #[.pointer (some ⟨sb,0,none⟩)] 165)):=(Fr.refl [] w).alloc _
 have B0:=Blk.new w [.pointer (some ⟨sb,0,none⟩)] 165
 have hz0:w.heap.size<(w.alloc (.cells #[.pointer (some ⟨sb,0,none⟩)] 165)).heap.size:=by simp
 have c0:=B0.cell
 have kN:=saNewest_no (h.fr0 hF0) rfl rfl
 unfold saNewNo at kN
 go_enter Tryz.func198,Tryz.ntmps198
 go_wp2_with fail
 refine kN.mono ?_
 rintro e w1 ⟨rfl,hf1⟩
 clear kN
 have B1:=B0.fr0 hf1
 have hF1:=hF0.trans0 hf1
 have hzz:=hf1.size
 generalize w.alloc (.cells #[.pointer (some ⟨sb,0,none⟩)] 165)=w00 at *
 obtain ⟨b0,hb0⟩:∃y,Hid (w.heap.size=y):=⟨_,hidIt rfl⟩
 rw [hb0.out] at B1 ⊢
 have hlb0:w.heap.size≤b0:=by rw [hb0.out];exact Nat.le_refl _
 have c1:=B1.cell
 have kL:=fun X (hX:Fr [] w1 X)=>stLen_calls (h.fr0 (hF1.trans0 hX))
 have kM:=fun X=>saMost_calls X
 have kA:=fun X=>saArea_calls X
 have hl1:¬(4080:Int)<(b.length:Int):=by omega
 clear c0 B0
 go_wp2_with fail
 refine (kL _ (Fr.refl _ _)).mono ?_
 rintro e w2 ⟨rfl,hw⟩
 rw [hw]
 clear hw w2
 go_wp2_with fail
 refine (kM _).mono ?_
 rintro e w2 ⟨rfl,hw⟩
 rw [hw]
 clear hw w2 kM
 go_wp2_with fail
 obtain ⟨W2,hW2⟩:∃W2,Hid ((w1.alloc (Obj.cells #[.slice none 0 0,.int .i64 0] 290)).alloc (Obj.cells #[.pointer (some ⟨w1.heap.size,0,none⟩)] 275)=W2):=⟨_,hidIt rfl⟩
 obtain ⟨tb,htb⟩:∃y,Hid (w1.heap.size+1=y):=⟨_,hidIt rfl⟩
 obtain ⟨vb,hvb⟩:∃y,Hid (w1.heap.size=y):=⟨_,hidIt rfl⟩
 have hF2:Fr [] w1 W2:=by rw [←hW2.out];exact ((Fr.refl [] w1).alloc _).alloc _
 have hS0:SavB W2 vb tb b0 sb W2.heap.size (.slice none 0 0) []:=by
  refine ⟨?_,?_,B1.fr0 hF2,World.ownsRow_nil _ _ _ _,fun x hx=>(by cases hx),?_⟩
  ·rw [←hW2.out,←hvb.out]
   exact (Blk.new w1 [.slice none 0 0,.int .i64 0] _).alloc _
  ·rw [←hW2.out,←htb.out,←hvb.out]
   exact Blk.new' (by simp) [.pointer (some ⟨w1.heap.size,0,none⟩)] _
  ·have hz:W2.heap.size=w1.heap.size+1+1:=by rw [←hW2.out];simp
   have:=hvb.out
   have:=htb.out
   have:=B1.lt
   omega
 rw [hW2.out,htb.out,hvb.out]
 have hlv:w.heap.size≤vb:=by have:=hvb.out;have:=hF1.size;omega
 have hF02:=hF1.trans0 hF2
 have hbv2:=SlF.fr0 hbv hF02
 clear hW2 htb hvb hf1 B1 c1
 generalize hbase:W2.heap.size=base at *
 have hbw:w.heap.size≤base:=by rw [←hbase];exact hF02.size
 clear hbase
 have kL2:=fun X (hX:Fr [] W2 X)=>kL X (hF2.trans0 hX)
 clear kL
 go_loopw [13] (fun fr wr=>∃(i:Nat) (sv:Value) (xs:List (Value × Sop)),fr=.int .i64 ((16*i:Nat):Int)∧i≤nch b∧SavB wr vb tb b0 sb base sv xs∧Hid (xs.map (·.2)=chunkO b i)∧Fr [] w wr) (fun fr _=>b.length+16 - (intOf fr).toNat)
 case atStart=>exact ⟨0,_,[],rfl,Nat.zero_le _,hS0,hidIt rfl,hF02⟩
 clear hS0
 case round =>
 obtain ⟨i,sv,xs,rfl,hi,hS,hxs,hF⟩:=hrel
 obtain ⟨F,hFi⟩:∃F,Hid (16*i=F):=⟨_,hidIt rfl⟩
 rw [hFi.out]
 by_cases hlt:F<b.length
 case neg =>
  have hlt':¬(F:Int)<(b.length:Int):=by omega
  have hin:i=nch b:=by have:=hFi.out;unfold nch at hi ⊢;omega
  have hnl:=hidIt (show xs.length=i by have:=congrArg List.length hxs.out;rw [List.length_map] at this;rw [this];simp [chunkO])
  have hnl2:xs.length≤256:=by have:=hnl.out;unfold nch at hin;omega
  have hni:i≤255:=by unfold nch at hin;omega
  have hbr:=SlF.fr0 hbv hF
  have BV:=Blk.new wr [.slice va b.length vc] 31
  have hfv:=(Fr.refl [] wr).alloc (.cells #[.slice va b.length vc] 31)
  have kO:=sumOf_calls wr.heap.size _ b _ BV (SlF.fr0 hbr hfv)
  have hsl:=sumN_lt b
  clear kL2 kA hi
  go_wp2_with fail
  refine kO.mono ?_
  rintro e w2 ⟨rfl,hf2⟩
  clear kO
  have hFr2:=hfv.trans0 hf2
  have hF2':=hF.trans0 hFr2
  have hz2:=hF2'.size
  have kP:=Put_calls 4 (by omega) [1,b.length,sumN b] (by intro n hn;simp at hn;rcases hn with rfl | rfl | rfl <;> omega) w2.heap.size (.slice none 0 0) [] w2.heap.size 3 (w2.alloc (.cells #[.int .i64 1,.int .i64 (b.length:Int),.int .i64 (sumN b:Int)] 3)) (World.ownsRow_nil _ _ _ _) (by simp) (by simp) (Blk.new w2 [_,_,_] _) (fun k hk=>by cases hk)
  go_wp2_with fail
  refine kP.mono ?_
  rintro e w3 ⟨u,rfl,hu,hf3,_⟩
  clear kP
  have hF3:Fr [] w2 w3:=((Fr.refl [] w2).alloc (.cells #[.int .i64 1,.int .i64 (b.length:Int),.int .i64 (sumN b:Int)] 3)).trans0 (show Fr [] _ _ from hf3)
  obtain ⟨pre,hpre⟩:∃pre,Hid ([]++[1,b.length,sumN b].flatMap (numL 4)=pre):=⟨_,hidIt rfl⟩
  rw [hpre.out] at hu
  have hprl:pre.length=12:=by rw [←hpre.out];simp [numL_length]
  have hhead:Hid (sealB pre=headB b):=hidIt (by rw [←hpre.out];unfold headB;simp)
  have hFr3:=hFr2.trans0 hF3
  have hS3:=hS.fr0 hFr3
  have hFw3:=hF.trans0 hFr3
  have hz3:=hFw3.size
  have hum:=SlF.of_owns hu
  have hub:=own_base hu
  have hzr2:=hFr2.size
  have hsvl:=hS.own.lt
  have hwb:=hS.lo
  clear hS hu hf3 hF3 hFr3 hFr2 hF2' hf2 BV hfv hbr hpre
  have hVp:=hS3.blk.drew
  have hTp:=hS3.tbx.drew
  have hop:=owns_drew hS3.own
  have hlop:=hS3.lo
  have nvbp:vb ∉ sv.ownBlock.toList:=fun hm=>by have:=own_base hS3.own vb (by simpa using hm);omega
  have ntbp:tb ∉ sv.ownBlock.toList:=fun hm=>by have:=own_base hS3.own tb (by simpa using hm);omega
  go_wp2_with fail
  refine wp_region_Z 10 (Fr sv.ownBlock.toList w3.drew) [(true,0),(true,1),(true,2),(true,3),(true,4),(true,5),(false,6),(false,7),(false,8),(true,9)] (by as_aux_lemma=>kernel_rfl) (by as_aux_lemma=>kernel_rfl) (Fr.refl _ _) ?_
  simp only [inOrder,jD,jE,jF,jG]
  refine wpG_val (.pointer (some ⟨vb,0,none⟩)) (by first | rfl | go_simp) (fun X hX=>by have cc:=(hTp.fr hX ntbp).cell;go_simp) ?_
  simp only [Act.put,jA,jB,jC]
  refine wpG_val (.pointer (some ⟨vb,0,none⟩)) (by first | rfl | go_simp) (fun X hX=>by have cc:=(hTp.fr hX ntbp).cell;go_simp) ?_
  simp only [Act.put,jA,jB,jC]
  iterate 2 (refine wpG_pure fun K hK=>?_;go_simp;refine hK _ ?_;clear hK K)
  refine wpG_val (sv) (by first | rfl | go_simp) (fun X hX=>by have cc:=(hVp.fr hX nvbp).cell;go_simp) ?_
  simp only [Act.put,jA,jB,jC]
  iterate 1 (refine wpG_pure fun K hK=>?_;go_simp;refine hK _ ?_;clear hK K)
  refine wpG_one fun K hK=>?_
  go_simp
  refine hK _ _ (((Fr.refl [] w3.drew).alloc _).weak) ?_
  clear hK K
  refine wpG_list rfl (fun _ _ h=>h) fun K hK=>?_
  refine wpList_append1 288 81 _ 1 8 Tryz.underlying288 infoF rfl (by decide) (by decide) rfl _ _ rfl base sv _ _ rfl (hop.alloc _) [.func (.func 220) #[] #[.pointer (some ⟨b0,0,none⟩)]] rfl (by intro y hy;rw [List.mem_singleton.1 hy];rfl) w3.heap.size rfl (by first | exact Blk.new w3.drew [_] _ | exact (Blk.new w3 [_] _).drew) (by omega) (by simp;omega) ?_
  intro vp wp hownp hgrowp hlocp
  have hFp:Fr sv.ownBlock.toList w3.drew wp:=((Fr.refl [] w3.drew).alloc _).weak.trans' (Fr.of_grown hgrowp)
  refine hK _ (fun _ h=>h) _ _ hFp ?_
  clear hK K
  have h5p:=hVp.fr hFp nvbp
  have c5p:=h5p.cell
  have f5p:=h5p.frozen
  have l5p:=h5p.lt
  have hlp:∀y,vp.ownBlock=some y→sv.ownBlock=some y∨w3.heap.size≤y:=fun y hy=>by
   rcases hlocp with h | h
   ·left;rw [←h,hy]
   ·right;rw [h] at hy;injection hy with hy;simp at hy;omega
  obtain ⟨ap,cpp,rfl,_⟩:=Sl.of_owns hownp
  refine wpG_one fun K hK=>?_
  go_simp
  refine hK _ _ hFp ?_
  clear hK K
  iterate 1 (refine wpG_pure fun K hK=>?_;go_simp;refine hK _ ?_;clear hK K)
  refine wpG_last fun K hK=>?_
  go_simp
  refine hK _ _ ?_
  clear hK K
  have hsp:Fr [vb] wp (wp.setCell ⟨vb,0,none⟩ (.slice ap (xs.length+1) cpp)):=(Fr.refl _ wp).setCell (.inl (by simp)) _
  have hBp:=h5p.setCell 0 (.slice ap (xs.length+1) cpp)
  have howBp:=owns_fr hownp hsp (fun y hy hm=>by
   have e:=List.mem_singleton.1 hm
   rw [e] at hy
   have:=own_base hownp vb hy
   omega)
  have hFBp:Fr (vb :: sv.ownBlock.toList) w3 (wp.setCell ⟨vb,0,none⟩ (.slice ap (xs.length+1) cpp)):=(((Fr.refl [] w3).drew.weak).trans' (hFp.mono (fun y hy _=>List.mem_cons_of_mem _ hy))).trans' (hsp.mono (fun y hy _=>by rw [List.mem_singleton.1 hy];exact List.mem_cons_self))
  have hS4:=hS3.more (o:=none) hBp howBp hFBp hlp rfl
  have hFw4:Fr [] w (wp.setCell ⟨vb,0,none⟩ (.slice ap (xs.length+1) cpp)):=hFw3.trans hFBp (fun y hy hl=>by
   rcases List.mem_cons.1 hy with h9 | h9
   ·omega
   ·have:=own_base hS3.own y (by simpa using h9);omega)
  obtain ⟨w4,hw4⟩:∃w4,Hid (wp.setCell ⟨vb,0,none⟩ (.slice ap (xs.length+1) cpp)=w4):=⟨_,hidIt rfl⟩
  rw [hw4.out] at hS4 hFw4 ⊢
  have hu4:SlY w4 u pre:=by
   rw [←hw4.out]
   exact SlF.fr hum hFBp (fun k hk hm=>by
    have h8:=hub k hk
    rcases List.mem_cons.1 hm with h9 | h9
    ·omega
    ·have:=(hsvl k (by simpa using h9)).2;omega)
  clear hw4 hsp hBp howBp hFBp h5p c5p f5p l5p hFp hownp hgrowp hlocp hlp hVp hTp hop hS3 hum
  generalize hxs4:xs++[(Value.func (.func 220) #[] #[.pointer (some ⟨b0,0,none⟩)],(none:Sop))]=xs4 at *
  have hx4:=hidIt hxs4
  have hx4l:xs4.length≤257:=by rw [←hxs4];simp;omega
  clear hxs4
  generalize Value.slice ap (xs.length+1) cpp=sv4 at *
  have kS:=sumSeal_calls u pre w4 hu4 (by omega)
  go_wp2_with fail
  refine kS.mono ?_
  rintro e w5 ⟨r,rfl,hr,hf5⟩
  clear kS
  have hrs:=SlF.of_owns hr
  rw [hhead.out] at hrs
  have hrb:=own_base hr
  have hrl:=hr.lt
  have hS5:=hS4.fr0 hf5
  have hlo5:=hS5.lo
  have hFw5:=hFw4.trans0 hf5
  have kAdd:Calls Tryz.prog 222 #[.int .i64 0,r,.pointer (some ⟨tb,0,none⟩),.pointer (some ⟨b0,0,none⟩)] w5 (saAddPost w5 vb b0 base xs4.length sv4 (xs4.map (·.1)) 0 r) :=
   saAdd_calls (b0:=b0) 0 (headB b) hrs hS5.tbx hS5.blk hS5.own hlo5.2.2.2.1 (by omega) (fun y hy=>by have:=own_base hS5.own y hy;omega)
  go_wp2_with fail
  refine kAdd.mono ?_
  rintro e w6 ⟨rfl,sv6,ba,bx,g1,g2,g3,g4,g5,g6,g7,g8⟩
  clear kAdd
  have hz6:=g7.size
  have hz5:=hf5.size
  have hst:StepW w6 (fun k=>base≤k∧k<w6.heap.size∧sv6.ownBlock≠some k) b0 (.func (.func 223) #[] #[.pointer (some ⟨b0,0,none⟩),.pointer (some ⟨ba,0,none⟩),.pointer (some ⟨bx,0,none⟩)]) (some (0,headB b)):=by
   have hn4:∀k,r.ownBlock=some k→k ∉ vb :: sv4.ownBlock.toList∧sv6.ownBlock≠some k:=fun k hk=>by
    have h7:=hrb k hk
    have h8:=(hrl k hk).2
    have hv:sv4.ownBlock≠some k:=fun e=>by have:=(hS4.own.lt k e).2;omega
    refine ⟨fun hm=>?_,fun e=>?_⟩
    ·rcases List.mem_cons.1 hm with h9 | h9
     ·have:=hS4.lo;omega
     ·exact hv (by simpa using h9)
    ·rcases g8 k e with h9 | h9
     ·exact hv h9
     ·omega
   refine ⟨ba,bx,_,rfl,g3,g4,SlF.fr hrs g7 (fun k hk=>(hn4 k hk).1),⟨by omega,g3.lt,fun e=>?_⟩,⟨by omega,g4.lt,fun e=>?_⟩,fun k hk=>⟨?_,?_,(hn4 k hk).2⟩⟩
   ·rcases g8 _ e with h9 | h9
    ·have:=(hS5.own.lt _ h9).2;omega
    ·omega
   ·rcases g8 _ e with h9 | h9
    ·have:=(hS5.own.lt _ h9).2;omega
    ·omega
   ·have:=hrb k hk;have:=hS4.lo;omega
   ·have:=(hrl k hk).2;omega
  have hS6:=hS5.more g1 g2 g7 (fun y hy=>(g8 y hy).imp id (·.1)) hst
  have hFw6:Fr [] w w6:=hFw5.trans g7 (fun y hy hl=>by
   rcases List.mem_cons.1 hy with h9 | h9
   ·omega
   ·have:=own_base hS5.own y (by simpa using h9);omega)
  clear hst g1 g2 g3 g4 g7 g8 hrs hr hrb hrl hS5 hS4 hu4 hub hsvl
  generalize hxs6:xs4++[(Value.func (.func 223) #[] #[.pointer (some ⟨b0,0,none⟩),.pointer (some ⟨ba,0,none⟩),.pointer (some ⟨bx,0,none⟩)],(some (0,headB b):Sop))]=xs6 at *
  have hx6:=hidIt hxs6
  have hx6l:xs6.length≤258:=by rw [←hxs6];simp;omega
  clear hxs6
  have hVq:=hS6.blk.drew
  have hTq:=hS6.tbx.drew
  have hoq:=owns_drew hS6.own
  have hloq:=hS6.lo
  have nvbq:vb ∉ sv6.ownBlock.toList:=fun hm=>by have:=own_base hS6.own vb (by simpa using hm);omega
  have ntbq:tb ∉ sv6.ownBlock.toList:=fun hm=>by have:=own_base hS6.own tb (by simpa using hm);omega
  go_wp2_with fail
  refine wp_region_Z 10 (Fr sv6.ownBlock.toList w6.drew) [(true,0),(true,1),(true,2),(true,3),(true,4),(true,5),(false,6),(false,7),(false,8),(true,9)] (by as_aux_lemma=>kernel_rfl) (by as_aux_lemma=>kernel_rfl) (Fr.refl _ _) ?_
  simp only [inOrder,jD,jE,jF,jG]
  refine wpG_val (.pointer (some ⟨vb,0,none⟩)) (by first | rfl | go_simp) (fun X hX=>by have cc:=(hTq.fr hX ntbq).cell;go_simp) ?_
  simp only [Act.put,jA,jB,jC]
  refine wpG_val (.pointer (some ⟨vb,0,none⟩)) (by first | rfl | go_simp) (fun X hX=>by have cc:=(hTq.fr hX ntbq).cell;go_simp) ?_
  simp only [Act.put,jA,jB,jC]
  iterate 2 (refine wpG_pure fun K hK=>?_;go_simp;refine hK _ ?_;clear hK K)
  refine wpG_val (sv6) (by first | rfl | go_simp) (fun X hX=>by have cc:=(hVq.fr hX nvbq).cell;go_simp) ?_
  simp only [Act.put,jA,jB,jC]
  iterate 1 (refine wpG_pure fun K hK=>?_;go_simp;refine hK _ ?_;clear hK K)
  refine wpG_one fun K hK=>?_
  go_simp
  refine hK _ _ (((Fr.refl [] w6.drew).alloc _).weak) ?_
  clear hK K
  refine wpG_list rfl (fun _ _ h=>h) fun K hK=>?_
  refine wpList_append1 288 81 _ 1 8 Tryz.underlying288 infoF rfl (by decide) (by decide) rfl _ _ rfl base sv6 _ _ rfl (hoq.alloc _) [.func (.func 220) #[] #[.pointer (some ⟨b0,0,none⟩)]] rfl (by intro y hy;rw [List.mem_singleton.1 hy];rfl) w6.heap.size rfl (by first | exact Blk.new w6.drew [_] _ | exact (Blk.new w6 [_] _).drew) (by omega) (by simp;omega) ?_
  intro vq wq hownq hgrowq hlocq
  have hFq:Fr sv6.ownBlock.toList w6.drew wq:=((Fr.refl [] w6.drew).alloc _).weak.trans' (Fr.of_grown hgrowq)
  refine hK _ (fun _ h=>h) _ _ hFq ?_
  clear hK K
  have h5q:=hVq.fr hFq nvbq
  have c5q:=h5q.cell
  have f5q:=h5q.frozen
  have l5q:=h5q.lt
  have hlq:∀y,vq.ownBlock=some y→sv6.ownBlock=some y∨w6.heap.size≤y:=fun y hy=>by
   rcases hlocq with h | h
   ·left;rw [←h,hy]
   ·right;rw [h] at hy;injection hy with hy;simp at hy;omega
  obtain ⟨aq,cpq,rfl,_⟩:=Sl.of_owns hownq
  refine wpG_one fun K hK=>?_
  go_simp
  refine hK _ _ hFq ?_
  clear hK K
  iterate 1 (refine wpG_pure fun K hK=>?_;go_simp;refine hK _ ?_;clear hK K)
  refine wpG_last fun K hK=>?_
  go_simp
  refine hK _ _ ?_
  clear hK K
  have hsq:Fr [vb] wq (wq.setCell ⟨vb,0,none⟩ (.slice aq (xs6.length+1) cpq)):=(Fr.refl _ wq).setCell (.inl (by simp)) _
  have hBq:=h5q.setCell 0 (.slice aq (xs6.length+1) cpq)
  have howBq:=owns_fr hownq hsq (fun y hy hm=>by
   have e:=List.mem_singleton.1 hm
   rw [e] at hy
   have:=own_base hownq vb hy
   omega)
  have hFBq:Fr (vb :: sv6.ownBlock.toList) w6 (wq.setCell ⟨vb,0,none⟩ (.slice aq (xs6.length+1) cpq)):=(((Fr.refl [] w6).drew.weak).trans' (hFq.mono (fun y hy _=>List.mem_cons_of_mem _ hy))).trans' (hsq.mono (fun y hy _=>by rw [List.mem_singleton.1 hy];exact List.mem_cons_self))
  have hS7:=hS6.more (o:=none) hBq howBq hFBq hlq rfl
  have hFw7:Fr [] w (wq.setCell ⟨vb,0,none⟩ (.slice aq (xs6.length+1) cpq)):=hFw6.trans hFBq (fun y hy hl=>by
   rcases List.mem_cons.1 hy with h9 | h9
   ·omega
   ·have:=own_base hS6.own y (by simpa using h9);omega)
  obtain ⟨w8,hw8⟩:∃w8,Hid (wq.setCell ⟨vb,0,none⟩ (.slice aq (xs6.length+1) cpq)=w8):=⟨_,hidIt rfl⟩
  rw [hw8.out] at hS7 hFw7 ⊢
  have ct:=hS7.tbx.cell
  have hfin:=hidIt (And.intro hS7 hFw7)
  clear hw8 hsq hBq howBq hFBq h5q c5q f5q l5q hFq hownq hgrowq hlocq hlq hVq hTq hoq hS6 hS7 hFw7 hFw6 hFw5 hFw4 hFw3
  go_wp2
  go_ret2
  have hlo8:=hfin.out.1.lo
  have hz8:=hfin.out.2.size
  refine ⟨vb,b0,_,rfl,hlv,⟨⟨_,hfin.out.1.blk,flat_fv hfin.out.1.own,fun k hk=>?_⟩,fun x hx=>(hfin.out.1.steps x hx).mono fun k hk=>?_,hfin.out.1.box,?_,fun h=>h.2.2 rfl⟩,?_,hfin.out.2⟩
  ·have:=hfin.out.1.own.lt k hk
   omega
  ·have:=hk.1
   have:=hk.2.1
   omega
  ·have:=hfin.out.1.box.lt
   omega
  ·rw [List.map_append,←hx6.out,List.map_append,←hx4.out,List.map_append,hxs.out,hin]
   rfl
 have hlt':(F:Int)<(b.length:Int):=by omega
 obtain ⟨wm,hmk,hmo,hmg⟩:=makeY 16 wr (by omega)
 have hmk':(Instr.makeSlice 31 (.int .i64 16) (.int .i64 16)).run Tryz.prog wr=.ok (.slice (some ⟨wr.heap.size,0,none⟩) 16 16) wm:=hmk
 have hFm:Fr [] wr wm:=Fr.of_grown hmg
 have hbm:=SlF.fr0 (SlF.fr0 hbv hF) hFm
 have hcut:=fun W=>cut_from (P:=Tryz.prog) (w:=W) 31 5 1 Tryz.underlying31 (by kernel_rfl) va b.length vc F (by omega)
 have hsrc:=SlF.from 1 (fun _=>rfl) hbm (m:=F) (by omega)
 obtain ⟨wc,hcp,hco,hcf⟩:=copyY (off:=0) (dl:=16) (dc:=16) hmo hsrc (by rw [List.length_drop];omega) (by omega)
 have hch:spl (zBy 16) 0 ((b.drop F).take 16)=chunkB b i:=by rw [←hFi.out];exact spl_chunk b i
 rw [hch] at hco
 have hxl:=chunkB_len b i
 obtain ⟨A,hA⟩:∃A,Hid (slAddr va vc F 1=A):=⟨_,hidIt rfl⟩
 rw [hA.out] at hcut hcp
 have hFc:Fr [] wr wc:=hFm.trans1 hcf (Nat.le_refl _)
 have hlm:wr.heap.size<wm.heap.size:=(hmo.lt _ rfl).2
 have hSc:=hS.fr0 hFc
 have hlc2:wr.heap.size<wc.heap.size:=Nat.lt_of_lt_of_le hlm hcf.size
 have hxs2:SlY wc (.slice (some ⟨wr.heap.size,0,none⟩) 16 16) (chunkB b i):=by
  refine SlF.of_owns (base:=wr.heap.size) (e:=5) (size:=1) ?_
  rw [hxl]
  exact hco
 generalize hq0:((b.drop F).take 16).length=L0 at *
 have hob:∀y,sv.ownBlock=some y→y≠vb∧y≠tb:=fun y hy=>by
  have:=own_base hS.own y hy
  have:=hS.lo
  omega
 have hnl:xs.length=i:=by have:=congrArg List.length hxs.out;rw [List.length_map] at this;rw [this];simp [chunkO]
 have kAdd:Calls Tryz.prog 222 #[.int .i64 (2+(i:Int)),.slice (some ⟨wr.heap.size,0,none⟩) 16 16,.pointer (some ⟨tb,0,none⟩),.pointer (some ⟨b0,0,none⟩)] wc (saAddPost wc vb b0 base xs.length sv (xs.map (·.1)) (2+i) (.slice (some ⟨wr.heap.size,0,none⟩) 16 16)):=by
  have:=saAdd_calls (b0:=b0) (2+i) (chunkB b i) hxs2 hSc.tbx hSc.blk hSc.own hSc.lo.2.2.2.1 (by unfold nch at hi;omega) hob
  rw [Int.natCast_add] at this
  exact this
 have hFcw:=hF.trans0 hFc
 have hstc:=h.fr0 hFcw
 have kLc:=stLen_calls hstc
 have cbx:=hSc.box.cell
 have hdiv:(F:Int) / 16=(i:Int):=by have:=hFi.out;omega
 have hwr1:IntKind.i64.wrap ((F:Int)+16)=(F:Int)+16:=IntWalk.i64_in _ (by omega)
 clear hmk hmo hmg hbm hsrc hco hSc kL2
 go_wp2_with fail
 refine kLc.mono ?_
 rintro e w4 ⟨rfl,hw⟩
 rw [hw]
 clear hw w4
 go_wp2_with fail
 refine (kA _).mono ?_
 rintro e w4 ⟨rfl,hw⟩
 rw [hw]
 clear hw w4
 go_wp2_with fail
 refine kAdd.mono ?_
 rintro e w5 ⟨rfl,sv',ba,bx,g1,g2,g3,g4,g5,g6,g7,g8⟩
 clear kAdd kLc
 have hlo:=hS.lo
 have hz5:=g7.size
 have hzc:=hFc.size
 have hwrn:wr.heap.size ∉ vb :: sv.ownBlock.toList:=fun hm=>by
  rcases List.mem_cons.1 hm with h9 | h9
  ·omega
  ·have:=(hS.own.lt wr.heap.size (by simpa using h9)).2;omega
 have hst:StepW w5 (fun k=>base≤k∧k<w5.heap.size∧sv'.ownBlock≠some k) b0 (.func (.func 223) #[] #[.pointer (some ⟨b0,0,none⟩),.pointer (some ⟨ba,0,none⟩),.pointer (some ⟨bx,0,none⟩)]) (some (2+i,chunkB b i)):=by
  refine ⟨ba,bx,_,rfl,g3,g4,SlF.fr hxs2 g7 (fun k hk=>?_),⟨by omega,g3.lt,fun e=>?_⟩,⟨by omega,g4.lt,fun e=>?_⟩,fun k hk=>?_⟩
  ·cases hk;exact hwrn
  ·rcases g8 _ e with h9 | h9
   ·have:=(hS.own.lt _ h9).2;omega
   ·omega
  ·rcases g8 _ e with h9 | h9
   ·have:=(hS.own.lt _ h9).2;omega
   ·omega
  ·have hk2:wr.heap.size=k:=by simpa [Value.ownBlock] using hk
   subst hk2
   refine ⟨by omega,by omega,fun e=>?_⟩
   rcases g8 _ e with h9 | h9
   ·exact hwrn (List.mem_cons_of_mem _ (by simpa using h9))
   ·have:wc.heap.size≤wr.heap.size:=h9.1
    omega
 have hS5:=(hS.fr0 hFc).more g1 g2 g7 (fun y hy=>(g8 y hy).imp id (·.1)) hst
 have hF5:Fr [] w w5:=hFcw.trans g7 (fun y hy hl=>by
  rcases List.mem_cons.1 hy with h9 | h9
  ·omega
  ·have:=own_base hS.own y (by simpa using h9);omega)
 have hfin:=hidIt (And.intro hS5 hF5)
 clear hS5 hF5 hst g1 g2 g3 g4 g7 g8 hS hxs2 hFc hFcw hstc hcf hcp hcut cbx hFm
 go_wp2
 go_roundw
 case rel=>exact ⟨i+1,sv',_,congrArg (Value.int .i64) (by have:=hFi.out;omega),by have:=hFi.out;unfold nch;omega,hfin.out.1,hidIt (by rw [List.map_append,hxs.out,chunkO_succ];rfl),hfin.out.2⟩
 case measure=>simp [intOf];omega
end
theorem runO_snoc (l:List Sop) (g:Nat→Option By) (o:Sop):runO g (l++[o])=match o with | none=>runO g l | some (k,x)=>putS (runO g l) k x:=by
 rw [runO_app]
 cases o with
 | none=>rfl
 | some q=>rfl
section
variable {w w':World} {sb sm nm:Nat}
def saSavePost (w:World) (sb nm:Nat) (b:By) (e:Ending) (w':World):Prop :=
 e=.returned (.int .i64 0)∧(∃sm' f,StoW w' sb sm' nm (.slice none 0 0) 512 f f∧savedG f b∧secF f 1=zBy 16∧w.heap.size≤sm')∧Fr [sb,nm] w w'
theorem saSave_calls (b:By) (bv:Value) (h:StoW w sb sm nm (.slice none 0 0) 512 (fun _=>none) (fun _=>none)) (hbv:SlY w bv b) (hb:b.length≤4080) :
 Calls Tryz.prog 171 #[.pointer (some ⟨sb,0,none⟩),bv] w (saSavePost w sb nm b):=by
 have kB:=saBegin_calls b bv h hbv hb
 unfold saBeginPost at kB
 have hlt:=h.lt
 go_enter Tryz.func171,Tryz.ntmps171
 go_wp2_with fail
 refine kB.mono ?_
 rintro e w1 ⟨vb,b0,xs,rfl,hvb,hS,hxs,hf1⟩
 clear kB
 have h1:=h.fr0 hf1
 have kL:=saLeft_calls xs hS
 go_wp2_with fail
 refine kL.mono ?_
 rintro e w2 ⟨rfl,hw⟩
 rw [hw]
 clear hw w2 kL
 go_wp2_with fail
 obtain ⟨H,hH⟩:∃H,Hid (w1.heap.size=H):=⟨_,hidIt rfl⟩
 rw [hH.out] at hS
 have hzw:=hf1.size
 rw [hH.out] at hzw
 have hvbH:vb<H:=by
  obtain ⟨sv,hB,_⟩:=hS.blk
  have:=hB.lt
  have:=hH.out
  omega
 have hgood:Hid (∀o∈xs.map (·.2),goodO o):=hidIt (by rw [hxs];exact saveO_good hb)
 have hxl:xs.length≤300:=by
  have:=congrArg List.length hxs
  rw [List.length_map] at this
  rw [this]
  unfold saveO chunkO nch
  simp
  omega
 have hxs':=hidIt hxs
 clear hxs
 go_loopw [6,18] (fun er i wr=>∃(xp xr:List (Value × Sop)),er=.int .i64 0∧i=.int .i64 (xp.length:Int)∧Hid (xs=xp++xr)∧SavW wr vb b0 sb (fun k=>w.heap.size≤k∧k<H∧k≠vb) xr∧Fr [sb,nm] w wr∧H≤wr.heap.size ∧
  ∃sm' v f n ys,StoW wr sb sm' nm v 512 f (runO (fun _=>none) (xp.map (·.2)))∧wr.ownsRow H 235 17 v n ys∧n≤xp.length∧((xp.map (·.2)).getLast? = some none→v=.slice none 0 0∧f=runO (fun _=>none) (xp.map (·.2))∧H≤sm')∧(sm'<w.heap.size∨H≤sm')) (fun _ i _=>xs.length - (intOf i).toNat)
 case atStart=>exact ⟨[],xs,rfl,rfl,hidIt rfl,hS,hf1.weak,by have:=hH.out;omega,sm,_,_,0,[],h1,World.ownsRow_nil _ _ _ _,Nat.zero_le _,fun h=>(by cases h),.inl hlt.2.1⟩
 case round =>
 clear hS h1 h
 obtain ⟨xp,xr,rfl,rfl,hx,hS,hF,hHw,sm',v,f,n,ys,hSt,hown,hn,hlast,hsm⟩:=hrel
 have hxpl:xp.length≤xs.length:=by rw [hx.out];simp
 cases xr with
 | nil =>
   have hxe:xs=xp:=by rw [hx.out,List.append_nil]
   have hnl:¬(xp.length:Int)<(xs.length:Int):=by rw [hxe];omega
   have hmap:xp.map (·.2)=saveO b:=by rw [←hxe];exact hxs'.out
   have hl:(saveO b).getLast? = some none:=by unfold saveO;simp
   rw [hmap] at hSt hlast
   obtain ⟨rfl,rfl,hsm2⟩:=hlast hl
   have hsv:=saveO_saved hb
   have hfin:=hidIt (And.intro hSt (And.intro hsv hF))
   clear hxe hmap hl hlast hSt hsv hF hS
   go_wp2
   go_ret
   exact ⟨rfl,⟨sm',_,hfin.out.1,⟨hb,hfin.out.2.1.1,hfin.out.2.1.2.2⟩,hfin.out.2.1.2.1,by omega⟩,hfin.out.2.2⟩
 | cons y xr =>
   obtain ⟨fv,o⟩:=y
   have hlt2:xp.length<xs.length:=by rw [hx.out];simp
   have hlt':(xp.length:Int)<(xs.length:Int):=by omega
   have hx2:Hid (xs=(xp++[(fv,o)])++xr):=hidIt (by rw [hx.out];simp)
   have hgo:goodO o:=hgood.out o (by rw [hx.out];simp)
   have hnP:∀k,k<w.heap.size∨H≤k→¬(w.heap.size≤k∧k<H∧k≠vb)∧(k=vb→H≤vb):=fun k hk=>⟨fun hh=>by omega,fun e=>by omega⟩
   clear hgood
   have hsb:=hlt.1
   have hnm:=hlt.2.2
   have hml:Hid ((xp++[(fv,o)]).map (·.2)=xp.map (·.2)++[o]):=hidIt (by rw [List.map_append];rfl)
   cases o with
   | none =>
     have kS:=saStep_none fv xr hS hSt ⟨fun hh=>by omega,by omega,by omega⟩
     go_wp2_with fail
     refine kS.mono ?_
     rintro e w2 ⟨⟨bb,rfl⟩,hS2,⟨sm2,hSt2,hsm2⟩,hf2⟩
     clear kS
     have hF2:Fr [sb,nm] w w2:=hF.trans hf2 (fun y hy hl=>by
      simp at hy ⊢
      rcases hy with rfl | rfl
      ·omega
      ·simp)
     have hz2:=hf2.size
     have hfin:=hidIt (And.intro hS2 (And.intro hSt2 hF2))
     have hx3:=hidIt (And.intro hx2.out hml.out)
     clear hS2 hSt2 hF2 hf2 hS hSt hF hown hx hx2 hml hlast
     go_wp2
     go_roundw
     case rel =>
      refine ⟨xp++[(fv,none)],xr,rfl,by rw [List.length_append];go_num,hidIt hx3.out.1,hfin.out.1,hfin.out.2.2,by omega,sm2,.slice none 0 0,runO (fun _=>none) (xp.map (·.2)),0,[],?_,World.ownsRow_nil _ _ _ _,Nat.zero_le _,fun _=>⟨rfl,?_,by omega⟩,.inr (by omega)⟩
      ·rw [hx3.out.2,runO_snoc]
       exact hfin.out.2.1
      ·rw [hx3.out.2,runO_snoc]
     case measure=>simp [intOf];omega
   | some q =>
     obtain ⟨k,x⟩:=q
     have hso:=own_base hown
     have hsl:=hown.lt
     have hym:∀y,v.ownBlock=some y→y≠sm':=fun y hy e=>by
      subst e
      obtain ⟨_,es,cl,hm,_⟩:=hSt.safe
      have hm':=mapAt_some.1 hm
      rcases hown.2 with ⟨rfl,_⟩ | ⟨gg,cap,cur,rfl,_,hg,_⟩
      ·cases hy
      ·have e2:gg=y:=by simpa [Value.ownBlock] using hy
       subst e2
       rw [hm'] at hg
       cases hg
     have kS:=saStep_some k x H n ys fv xr hS hSt hgo.1 hgo.2 hown hHw (by omega) (fun y hy=>by have:=hso y hy;exact ⟨by omega,fun e=>hym y hy e,by omega,by omega,fun hh=>by omega⟩) ⟨fun hh=>by omega,fun hh=>by omega,by omega,by omega,by omega⟩
     go_wp2_with fail
     refine kS.mono ?_
     rintro e w2 ⟨⟨bb,rfl⟩,hS2,⟨v2,ys2,hSt2,hown2,hob2⟩,hf2⟩
     clear kS
     have hF2:Fr [sb,nm] w w2:=hF.trans hf2 (fun y hy hl=>by
      simp at hy ⊢
      rcases hy with rfl | rfl | rfl | hy
      ·omega
      ·simp
      ·simp
      ·have:=hso y hy;omega)
     have hz2:=hf2.size
     have hfin:=hidIt (And.intro hS2 (And.intro hSt2 (And.intro hF2 hown2)))
     have hx3:=hidIt (And.intro hx2.out hml.out)
     clear hS2 hSt2 hF2 hf2 hS hSt hF hown hx hx2 hml hlast hown2
     go_wp2
     go_roundw
     case rel =>
      refine ⟨xp++[(fv,some (k,x))],xr,rfl,by rw [List.length_append];go_num,hidIt hx3.out.1,hfin.out.1,hfin.out.2.2.1,by omega,sm',v2,f,n+1,ys2,?_,hfin.out.2.2.2,by rw [List.length_append];simp;omega,fun h=>?_,hsm⟩
      ·rw [hx3.out.2,runO_snoc]
       exact hfin.out.2.1
      ·rw [hx3.out.2] at h
       simp at h
     case measure=>simp [intOf];omega
end
end Go.Proofs.YtffnihooekbcnaaGreat
namespace Go.Proofs.YtffnihooekbcnaaGreat
open Go.RowKit Go.Maps
attribute [local go_sem] mapAt_alloc mapAt_setCell mapAt_drew mapAt_drewN cells_str store_str eql_str neq_str guard_str len_str
def fF (l:List (By × Nat)) (s:By):Option Nat:=(l.find? fun p=>decide (p.1=s)).map (·.2)
def filM (l:List (By × Nat)):Value→Option Value:=fun v=>match v with | .string s=>(fF l s.data.toList).map fun b=>.pointer (some ⟨b,0,none⟩) | _=>none
theorem filM_str (l:List (By × Nat)) (s:By):filM l (strL s)=(fF l s).map fun b=>.pointer (some ⟨b,0,none⟩):=rfl
theorem fF_mem {l:List (By × Nat)} {s:By} {b:Nat} (h:fF l s=some b):(s,b)∈l:=by
 unfold fF at h
 obtain ⟨p,hp,rfl⟩:=Option.map_eq_some_iff.1 h
 have h1:=List.mem_of_find?_eq_some hp
 have h2:=List.find?_some hp
 simp at h2
 subst h2
 exact h1
def rmF (l:List (By × Nat)) (s:By):List (By × Nat):=l.filter fun p=>decide (p.1≠s)
def putF (l:List (By × Nat)) (s:By) (b:Nat):List (By × Nat):=(s,b) :: rmF l s
theorem fF_rm (l:List (By × Nat)) (s t:By):fF (rmF l s) t=if t=s then none else fF l t:=by
 unfold fF rmF
 rw [List.find?_filter]
 by_cases e:t=s
 ·subst e
  rw [if_pos rfl]
  have:(fun a:By × Nat=>decide (decide (a.1≠t)=true∧decide (a.1=t)=true))=fun _=>false:=by
   funext a
   by_cases h:a.1=t <;> simp [h]
  rw [List.find?_eq_none.2 (by intro x _;simp)]
  rfl
 ·rw [if_neg e]
  congr 2
  funext a
  by_cases h:a.1=t
  ·simp [h,e]
  ·simp [h]
theorem fF_put (l:List (By × Nat)) (s t:By) (b:Nat):fF (putF l s b) t=if t=s then some b else fF l t:=by
 unfold putF
 by_cases e:t=s
 ·subst e
  rw [if_pos rfl]
  simp [fF]
 ·rw [if_neg e]
  have:fF ((s,b) :: rmF l s) t=fF (rmF l s) t:=by
   unfold fF
   rw [List.find?_cons_of_neg (by simpa using fun h:s=t=>e h.symm)]
  rw [this,fF_rm,if_neg e]
theorem str_of (s:ByteArray):Value.string s=strL s.data.toList:=str_eq s
theorem filM_upd (l:List (By × Nat)) (s:By) (o:Option Nat) (l':List (By × Nat)) (h:∀t,fF l' t=if t=s then o else fF l t):upd (filM l) (strL s) (o.map fun b=>.pointer (some ⟨b,0,none⟩))=filM l':=by
 funext v
 unfold upd
 by_cases e:v=strL s
 ·subst e
  rw [if_pos rfl,filM_str,h,if_pos rfl]
 ·rw [if_neg e]
  unfold filM
  split
  ·rename_i t
   rw [h,if_neg (fun h1=>e (by rw [str_of,h1]))]
  ·rfl
structure FilW (w:World) (fb mb:Nat) (l:List (By × Nat)):Prop where
 blk:Blk w fb [.int .i64 4096,.map (some mb)] 124
 map:∃es clock,mapAt w mb=some (es,clock)∧IsM Tryz.prog 9 es clock (filM l)
 apart:l.Pairwise fun p q=>p.1≠q.1
section
variable {w w':World} {fb mb:Nat} {l:List (By × Nat)}
theorem FilW.fr {M:List Nat} (h:FilW w fb mb l) (hf:Fr M w w') (h1:fb ∉ M) (h2:mb ∉ M):FilW w' fb mb l:=by
 obtain ⟨es,c,hm,hi⟩:=h.map
 exact ⟨h.blk.fr hf h1,⟨es,c,mapAt_fr hm hf h2,hi⟩,h.apart⟩
theorem FilW.fr0 (h:FilW w fb mb l) (hf:Fr [] w w'):FilW w' fb mb l:=h.fr hf (by simp) (by simp)
theorem FilW.lt (h:FilW w fb mb l):fb<w.heap.size∧mb<w.heap.size:=by
 obtain ⟨es,c,hm,hi⟩:=h.map
 exact ⟨h.blk.lt,mapAt_lt hm⟩
def fpt:Option Nat→Value
 | some b=>.pointer (some ⟨b,0,none⟩)
 | none=>.pointer none
theorem zeroFil (W:World):(zeroValue 165).run Tryz.prog W=.ok (.pointer none) W:=by kernel_rfl
theorem FilW.look (h:FilW w fb mb l) {s:By} (hs:s.length≤maxLen):(Instr.lookup 122 (.map (some mb)) (strL s) false).run Tryz.prog w=.ok (fpt (fF l s)) w:=by
 obtain ⟨es,c,hm,hi⟩:=h.map
 rw [run_lookup_isM Tryz.underlying122 keyedStr hi false (keyStr hs) w (zeroFil w) hm,filM_str]
 cases fF l s <;> rfl
theorem FilW.put (h:FilW w fb mb l) {s:By} (hs:s.length≤maxLen) (b:Nat) (hne:fb≠mb):∃w',(Instr.mapUpdate 122 (.map (some mb)) (strL s) (.pointer (some ⟨b,0,none⟩))).run Tryz.prog w=.ok () w'∧FilW w' fb mb (putF l s b)∧Fr [mb] w w':=by
 obtain ⟨es,c,hm,hi⟩:=h.map
 obtain ⟨es',c',hr,hi'⟩:=run_mapUpdate_isM (P:=Tryz.prog) Tryz.underlying122 keyedStr hi (keyStr hs) (.pointer (some ⟨b,0,none⟩)) w hm
 have hu:=filM_upd l s (some b) (putF l s b) (fun t=>fF_put l s t b)
 simp only [Option.map_some] at hu
 rw [hu] at hi'
 refine ⟨_,hr,⟨h.blk.fr (putMap_fr w mb es' c') (by simpa using hne),⟨es',c',mapAt_putMap (mapAt_lt hm) es' c',hi'⟩,?_⟩,putMap_fr w mb es' c'⟩
 refine List.pairwise_cons.2 ⟨fun p hp=>?_,h.apart.filter _⟩
 have:=(List.mem_filter.1 hp).2
 simp at this
 exact fun e=>this e.symm
theorem FilW.del (h:FilW w fb mb l) {s:By} (hs:s.length≤maxLen) (hne:fb≠mb):∃w',(∀ty,(Builtin.delete_ #[122,9] ty #[.map (some mb),strL s]).run Tryz.prog w=.ok (.tuple #[]) w')∧FilW w' fb mb (rmF l s)∧Fr [mb] w w':=by
 obtain ⟨es,c,hm,hi⟩:=h.map
 obtain ⟨es',hr,hi',_⟩:=run_delete_isM (P:=Tryz.prog) (A2:=9) (ty:=0) Tryz.underlying122 keyedStr hi (keyStr hs) w hm
 replace hr:∀ty,(Builtin.delete_ #[122,9] ty #[.map (some mb),strL s]).run Tryz.prog w=.ok (.tuple #[]) (putMap w mb es' c):=fun ty=>hr
 have hu:=filM_upd l s none (rmF l s) (fun t=>fF_rm l s t)
 simp only [Option.map_none] at hu
 rw [hu] at hi'
 exact ⟨_,hr,⟨h.blk.fr (putMap_fr w mb es' c) (by simpa using hne),⟨es',c,mapAt_putMap (mapAt_lt hm) es' c,hi'⟩,h.apart.filter _⟩,putMap_fr w mb es' c⟩
theorem FilW.size (h:FilW w fb mb l):∀ty:TypeId,(Builtin.len_ #[122] ty #[.map (some mb)]).run Tryz.prog w=.ok (.int .i64 (l.length:Int)) w:=fun ty=>by
 obtain ⟨es,c,hm,hi⟩:=h.map
 have hs:=hi.size (ks:=l.map fun p=>strL p.1) ?_ ?_
 ·rw [run_len_map Tryz.underlying122 w hm,hs,List.length_map]
 ·rw [List.pairwise_map]
  exact h.apart.imp fun {a b} h e=>h (strL_inj e)
 ·intro x
  rw [List.mem_map]
  constructor
  ·rintro ⟨p,hp,rfl⟩
   rw [filM_str]
   unfold fF
   cases e:l.find? fun q=>decide (q.1=p.1) with
   | none=>have:=List.find?_eq_none.1 e p hp;simp at this
   | some q=>rfl
  ·intro hx
   unfold filM at hx
   split at hx
   ·rename_i s
    cases e:fF l s.data.toList with
    | none=>rw [e] at hx;cases hx
    | some b=>exact ⟨_,fF_mem e,(str_of s).symm⟩
   ·cases hx
def fiNewPost (w:World) (e:Ending) (w':World):Prop:=∃fb mb,e=.returned (.tuple #[.pointer (some ⟨fb,0,none⟩),.int .i64 0])∧FilW w' fb mb []∧w.heap.size≤fb∧w.heap.size≤mb∧fb≠mb∧Fr [] w w'
theorem fiNew_calls (w:World):Calls Tryz.prog 34 #[.int .i64 4096] w (fiNewPost w):=by
 have hmm:=@run_makeMap Tryz.prog
 go_enter Tryz.func34,Tryz.ntmps34
 go_wp2
 go_ret2
 refine ⟨w.heap.size+1,w.heap.size,rfl,⟨?_,⟨#[],0,?_,?_⟩,List.Pairwise.nil⟩,by omega,Nat.le_refl _,by omega,((Fr.refl [] w).alloc _).alloc _⟩
 ·exact Blk.new' (by simp) [.int .i64 4096,.map (some w.heap.size)] _
 ·rw [mapAt_alloc _ (by simp),mapAt_some]
  exact heap_alloc_new w _
 ·have:filM []=fun _=>none:=by funext v;unfold filM;split <;> rfl
  rw [this]
  exact IsM.empty
theorem fiOpen_yes (s:By) (b:Nat) (h:FilW w fb mb l) (hs:s.length≤maxLen) (hb:fF l s=some b):Calls Tryz.prog 118 #[.pointer (some ⟨fb,0,none⟩),strL s] w fun e w'=>e=.returned (.tuple #[.pointer (some ⟨b,0,none⟩),.int .i64 0])∧w'=w:=by
 have c:=h.blk.cell
 have hlk:=h.look hs
 rw [hb] at hlk
 unfold fpt at hlk
 obtain ⟨S,hS⟩:∃S,Hid (strL s=Value.string S):=⟨_,hidIt rfl⟩
 rw [hS.out] at hlk ⊢
 go_enter Tryz.func118,Tryz.ntmps118
 go_wp2
 go_ret2
 exact ⟨rfl,rfl⟩
theorem fiOpen_no (s:By) (h:FilW w fb mb l) (hs:s.length≤maxLen) (hb:fF l s=none):Calls Tryz.prog 118 #[.pointer (some ⟨fb,0,none⟩),strL s] w fun e w'=>e=.returned (.tuple #[.pointer none,.int .i64 40])∧w'=w:=by
 have c:=h.blk.cell
 have hlk:=h.look hs
 rw [hb] at hlk
 unfold fpt at hlk
 obtain ⟨S,hS⟩:∃S,Hid (strL s=Value.string S):=⟨_,hidIt rfl⟩
 rw [hS.out] at hlk ⊢
 go_enter Tryz.func118,Tryz.ntmps118
 go_wp2
 go_ret2
 exact ⟨rfl,rfl⟩
theorem fiRemove_calls (s:By) (h:FilW w fb mb l) (hs:s.length≤maxLen) (hb:fF l s=none) (hne:fb≠mb):Calls Tryz.prog 169 #[.pointer (some ⟨fb,0,none⟩),strL s] w fun e w'=>e=.returned (.int .i64 40)∧FilW w' fb mb (rmF l s)∧Fr [mb] w w':=by
 have c:=h.blk.cell
 have kO:=fiOpen_no s h hs hb
 obtain ⟨w2,hall,hf2,hr2⟩:=h.del hs hne
 obtain ⟨S,hS⟩:∃S,Hid (strL s=Value.string S):=⟨_,hidIt rfl⟩
 rw [hS.out] at kO hall ⊢
 go_enter Tryz.func169,Tryz.ntmps169
 go_wp2_with fail
 refine kO.mono ?_
 rintro e w3 ⟨rfl,hw⟩
 rw [hw]
 clear hw w3 kO
 go_wp2
 go_ret
 exact ⟨rfl,hf2,hr2⟩
end
end Go.Proofs.YtffnihooekbcnaaGreat
