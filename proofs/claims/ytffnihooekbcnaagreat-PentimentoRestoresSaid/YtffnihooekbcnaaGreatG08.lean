/-
  Package image: less, set.
-/
import Derived.Test.YtffnihooekbcnaaGreatG06
import Derived.Test.YtffnihooekbcnaaGreatG07
import Derived.Laws.EntriesVeiled
set_option maxRecDepth 100000
set_option maxHeartbeats 6400000
namespace Go.Proofs.YtffnihooekbcnaaGreat
open Go.RowKit Go.Maps
attribute [local go_sem] mapAt_alloc mapAt_setCell mapAt_drew mapAt_drewN cells_str store_str
section
variable {ib:Nat} {p:Pl} {M:Img}
def samePost (w:World) (ib:Nat) (p:Pl) (M':Img) (e:Ending) (w':World):Prop:=e=.returned (.tuple #[])∧ImgW w' ib p M'∧Step w p w' p
def liveS (M:Img) (s:Slt):Prop:=s.1=1→rightS s=true∧0<ng M (hst s)
def ownC (p:Pl) (w:World):List Nat:=(List.range w.heap.size).filter fun k=>p.r k == some 4 || p.r k == some 5
theorem mem_ownC {w:World} {k:Nat}:k∈ownC p w ↔ k<w.heap.size∧(p.r k=some 4∨p.r k=some 5):=by simp [ownC]
theorem Step.ofC {w w':World} (h:Fr (ownC p w) w w'):Step w p w' p:=Step.of_fr h fun k hk _=>by
 rcases (mem_ownC.1 hk).2 with e | e <;> rw [e] <;> rfl
def lessPost (w:World) (ib:Nat) (p:Pl) (M':Img) (e:Ending) (w':World):Prop:=e=.returned (.tuple #[])∧ImgW w' ib p M'∧Fr (ownC p w) w w'
theorem iLessF_calls (s:Slt) (w:World) (h:ImgW w ib p M) (hs:liveS M s):Calls Tryz.prog 183 #[.pointer (some ⟨ib,0,none⟩),slotV s] w (lessPost w ib p (lessI M s)):=by
 obtain ⟨k,x,o⟩:=s
 have hf:=(Fr.refl [] w).alloc (.cells #[.int .i64 k,.int .i64 x,.bool o] 216)
 have B:=Blk.new w [.int .i64 k,.int .i64 x,.bool o] 216
 have h1:=h.fr0 hf
 unfold slotV
 simp only
 by_cases hk:k=1
 ·subst hk
  obtain ⟨hr,hpos⟩:=hs rfl
  obtain ⟨hx,h512⟩:=host_nat hr rfl
  simp only at hx
  generalize hst ((1:Int),x,o)=y at *
  subst hx
  have hylt:=ng_lt hpos
  obtain ⟨g,cap,hnv,hgl,_⟩:=h.cnt.at hylt
  have hg4:p.r g=some 4:=h.rr g (by rw [hnv];rfl)
  have hM:lessI M (1,(y:Int),o)={ M with n:=M.n.set y (ng M y - 1),d:=if ng M y - 1=0 then setF M.d y none else M.d }:=by
   have e:hst ((1:Int),(y:Int),o)=y:=by simp [hst]
   unfold lessI
   rw [if_pos rfl,e]
  have HM:=hidIt hM
  clear hM hs hr
  generalize lessI M (1,(y:Int),o)=M' at *
  have b1:=h1.blk
  have hgib:ib≠g:=fun e=>by have:=h.ri;rw [e,hg4] at this;cases this
  have hgw:w.heap.size≠g:=by omega
  have hd:Fr [] (w.alloc (.cells #[.int .i64 1,.int .i64 (y:Int),.bool o] 216)) (w.alloc (.cells #[.int .i64 1,.int .i64 (y:Int),.bool o] 216)).drew:=(Fr.refl [] _).drew
  have h2:=h1.fr0 hd
  have kL:=cLess_calls p.nb p.nv M.n _ h2.cnt y hpos
  have hF2:=hf.trans0 hd
  have Bd:=B.drew
  have b2:=h2.blk
  have HW:Hid (w.heap.size≤w.heap.size):=hidIt (Nat.le_refl _)
  have hstep:Fr (ownC p w) w (w.alloc (.cells #[.int .i64 1,.int .i64 (y:Int),.bool o] 216)).drew:=hF2.weak
  have hdb5:=h.rd
  clear h h1 b1 hf hd B hF2
  go_enter Tryz.func183,Tryz.ntmps183
  go_wp2_with fail
  generalize w.alloc (.cells #[.int .i64 1,.int .i64 (y:Int),.bool o] 216)=w1 at *
  refine wp_region_G (Fr [g] w1.drew) [(true,0),(true,1),(true,2),(true,3),(true,4),(true,5),(false,6),(true,7),(true,8),(true,9),(true,10),(true,11)] (by as_aux_lemma=>kernel_rfl) (by as_aux_lemma=>kernel_rfl) (Fr.refl _ _) ?_
  simp only [inOrder,jD,jE,jF,jG]
  iterate 3 (refine wpG_pure fun K hK=>?_;go_simp;refine hK _ ?_;clear hK K)
  refine wpG_val (.pointer (some ⟨p.nb,0,none⟩)) (by first | rfl | go_simp) (fun X hX=>by have cc:=(b2.fr hX (by simpa using hgib)).cell;go_simp) ?_
  simp only [Act.put,jA,jB,jC]
  iterate 1 (refine wpG_pure fun K hK=>?_;go_simp;refine hK _ ?_;clear hK K)
  refine wpG_val (.int .i64 (y:Int)) (by first | rfl | go_simp) (fun X hX=>by have cc:=(Bd.fr hX (by simpa using hgw)).cell;go_simp) ?_
  simp only [Act.put,jA,jB,jC]
  refine wpG_one fun K hK=>?_
  go_simp
  refine (kL).mono ?_
  rintro e w2 ⟨g',c',hnv',rfl,hC,hf2⟩
  have hg':g'=g:=by
   rw [hnv] at hnv'
   have:=congrArg Value.ownBlock hnv'
   simpa [Value.ownBlock] using this.symm
  subst hg'
  refine hK _ _ (hf2) ?_
  clear hK K
  iterate 5 (refine wpG_pure fun K hK=>?_;go_simp;refine hK _ ?_;clear hK K)
  refine wpG_end ?_
  have h3:ImgW w2 ib p { M with n:=M.n.set y (M.n.getD y 0 - 1) }:=h2.setN hC hf2 (fun k hk=>by rw [List.mem_singleton.1 hk,hnv];rfl)
  have hstep3:=hstep.trans hf2 (fun k hk hl=>by have e:=List.mem_singleton.1 hk;subst e;exact mem_ownC.2 ⟨hl,.inl hg4⟩)
  have B3:=Bd.fr hf2 (by simpa using hgw)
  clear kL hC hf2 h2 b2 Bd hstep
  by_cases hz:ng M y - 1=0
  ·have hz':((M.n.getD y 0 - 1:Nat):Int)=0:=by unfold ng at hz;omega
   have e0:M.n[y]=M.n.getD y 0:=by rw [List.getD_eq_getElem?_getD,List.getElem?_eq_getElem hylt];rfl
   rw [←e0] at hz'
   have Hz:=hidIt hz
   clear hz hpos e0
   obtain ⟨es,clock,hm,hi⟩:=h3.dat
   have hdr:Fr [] w2 w2.drew:=(Fr.refl [] w2).drew
   have b3:=h3.blk.drew
   have b3':=B3.drew
   go_wp2_with fail
   have nib:ib ∉ [p.db]:=fun hx=>by have h5:=h3.rd;have:=h3.ri;rw [←List.mem_singleton.1 hx,this] at h5;cases h5
   have nbx:w.heap.size ∉ [p.db]:=fun hx=>by
    have h5:=h3.dat
    obtain ⟨es,clock,hm,_⟩:=h5
    rw [←List.mem_singleton.1 hx] at hm
    have:=(mapAt_some.1 hm).symm.trans B3
    cases this
   refine wp_region_G (Fr [p.db] w2.drew) [(true,0),(true,1),(true,2),(true,3),(true,4),(true,5),(false,6)] (by as_aux_lemma=>kernel_rfl) (by as_aux_lemma=>kernel_rfl) (Fr.refl _ _) ?_
   simp only [inOrder,jD,jE,jF,jG]
   iterate 3 (refine wpG_pure fun K hK=>?_;go_simp;refine hK _ ?_;clear hK K)
   refine wpG_val (.map (some p.db)) (by first | rfl | go_simp) (fun X hX=>by have cc:=(b3.fr hX nib).cell;go_simp) ?_
   simp only [Act.put,jA,jB,jC]
   iterate 1 (refine wpG_pure fun K hK=>?_;go_simp;refine hK _ ?_;clear hK K)
   refine wpG_val (.int .i64 (y:Int)) (by first | rfl | go_simp) (fun X hX=>by have cc:=(b3'.fr hX nbx).cell;go_simp) ?_
   simp only [Act.put,jA,jB,jC]
   refine wpG_list rfl (fun _ _ h=>h) fun K hK=>?_
   refine wpList_delete_isM rfl _ _ _ 3 rfl Tryz.underlying157 keyInt hi p.db rfl _ rfl (keyH h512) (by rw [mapAt_drew];exact hm) ?_
   intro es' hi'
   have hF4:Fr [p.db] w2 (putMap w2.drew p.db es' clock):=hdr.weak.trans' (putMap_fr _ _ _ _)
   have h4:=h3.delD (x:=y) (mapAt_putMap (show p.db<w2.drew.heap.size from mapAt_lt hm) _ _) hi' hF4
   have h4':ImgW (putMap w2.drew p.db es' clock) ib p M':=by rw [HM.out,if_pos Hz.out];exact h4
   have hstep4:=hstep3.trans hF4 (fun k hk hl=>by have e:=List.mem_singleton.1 hk;subst e;exact mem_ownC.2 ⟨hl,.inr hdb5⟩)
   clear h4 hi' hF4 h3 hstep3 hi hm
   refine hK _ (fun _ h=>h) _ _ (putMap_fr _ _ _ _) ?_
   clear hK K
   refine wpG_end ?_
   go_wp2
   exact bodyPost_end (v:=.tuple #[]) (results_none rfl _ _ _) rfl ⟨rfl,h4',hstep4⟩
  ·have hz':(((M.n.getD y 0 - 1:Nat):Int) == 0)=false:=by
    have:((M.n.getD y 0 - 1:Nat):Int)≠0:=by unfold ng at hz;omega
    simpa using this
   have Hz:=hidIt hz
   clear hz
   have HE:Hid (M.n.getD y 0=ng M y):=hidIt rfl
   have h3':ImgW w2 ib p M':=by rw [HM.out,if_neg Hz.out];exact h3
   have e0:M.n[y]=M.n.getD y 0:=by rw [List.getD_eq_getElem?_getD,List.getElem?_eq_getElem hylt];rfl
   rw [←e0] at hz'
   clear e0 HE
   go_wp2
   exact bodyPost_end (v:=.tuple #[]) (results_none rfl _ _ _) rfl ⟨rfl,h3',hstep3⟩
 ·have hk':(k != 1)=true:=by simpa using hk
  have hM:lessI M (k,x,o)=M:=by unfold lessI;rw [if_neg hk]
  rw [hM]
  clear hM hk hs
  have hstep:Fr (ownC p w) w (w.alloc (.cells #[.int .i64 k,.int .i64 x,.bool o] 216)):=hf.weak
  go_enter Tryz.func183,Tryz.ntmps183
  go_wp2
  exact bodyPost_ret (v:=.tuple #[]) (results_none rfl _ _ _) rfl ⟨rfl,h1,hstep⟩
theorem iLess_calls (s:Slt) (w:World) (h:ImgW w ib p M) (hs:liveS M s):Calls Tryz.prog 183 #[.pointer (some ⟨ib,0,none⟩),slotV s] w (samePost w ib p (lessI M s)) :=
 (iLessF_calls s w h hs).mono fun _ _ h=>⟨h.1,h.2.1,Step.ofC h.2.2⟩
theorem iSet_calls (c:Nat) (s:Slt) (w:World) (h:ImgW w ib p M) (hc:c<M.t.length) (hs:rightS s=true) (hl:liveS M (M.t.getD c zS)) :
 Calls Tryz.prog 143 #[.pointer (some ⟨ib,0,none⟩),.int .i64 (c:Int),slotV s] w (samePost w ib p (setI M c s)):=by
 obtain ⟨k,x,o⟩:=s
 unfold slotV
 simp only
 have hf:=(Fr.refl [] w).alloc (.cells #[.int .i64 k,.int .i64 x,.bool o] 216)
 have B:=Blk.new w [.int .i64 k,.int .i64 x,.bool o] 216
 have hd:Fr [] (w.alloc (.cells #[.int .i64 k,.int .i64 x,.bool o] 216)) (w.alloc (.cells #[.int .i64 k,.int .i64 x,.bool o] 216)).drew:=(Fr.refl [] _).drew
 have h2:=(h.fr0 hf).fr0 hd
 have kS:=fun W (hT:TabW W p.tb p.mb M.t)=>Set_yes p.tb p.mb M.t c k x o W hT hc hs
 rw [tget_nat] at kS
 unfold SetPost at kS
 simp only at kS
 have hstep:Step w p (w.alloc (.cells #[.int .i64 k,.int .i64 x,.bool o] 216)).drew p:=Step.fr0 (hf.trans0 hd)
 have hset:Hid (setI M c (k,x,o)=lessI { M with t:=M.t.set c (k,x,o) } (M.t.getD c zS)):=hidIt rfl
 generalize setI M c (k,x,o)=M' at *
 generalize M.t.getD c zS=q at *
 have nib:ib ∉ [p.mb]:=fun hx=>by have h5:=h.rm;have:=h.ri;rw [←List.mem_singleton.1 hx,this] at h5;cases h5
 have nbx:w.heap.size ∉ [p.mb]:=fun hx=>by have:=h.tab.lt.2;have:=List.mem_singleton.1 hx;omega
 have b2:=h2.blk
 have Bd:=B.drew
 have hzw:w.heap.size<(w.alloc (.cells #[.int .i64 k,.int .i64 x,.bool o] 216)).drew.heap.size:=B.lt
 have hnw:=fun k hk=>h.new (k:=k) hk
 clear h hf B hd hs hc
 obtain ⟨qk,qx,qo⟩:=q
 unfold slotV at kS
 simp only at kS
 go_enter Tryz.func143,Tryz.ntmps143
 go_wp2_with fail
 generalize w.alloc (.cells #[.int .i64 k,.int .i64 x,.bool o] 216)=w1 at *
 have hnew:∀k,w.heap.size≤k→p.r k=none:=fun k hk=>hnw k hk
 have fin:∀(w2 w3:World) (L:List Nat),ImgW w2 ib p { M with t:=M.t.set c (k,x,o) }→Step w p w2 p→Fr L w2 w3→(∀k∈L,w.heap.size≤k) →
  Step w p w3 p∧Calls Tryz.prog 183 #[.pointer (some ⟨ib,0,none⟩),.agg #[.int .i64 qk,.int .i64 qx,.bool qo]] w3 (samePost w3 ib p M'):=fun w2 w3 L h3 hs3 hf hL=>by
  have h4:=h3.fr hf (fun k hk=>hnew k (hL k hk))
  have kL:=iLess_calls (qk,qx,qo) _ h4 hl
  rw [←hset.out] at kL
  unfold slotV at kL
  exact ⟨hs3.box hf hL,kL⟩
 refine wp_region_B2 (Fr [p.mb] w1.drew) [0,1,2,3,4,5] 6 10 [(true,7),(true,8),(true,9),(false,10),(false,11),(true,12)] [(false,6),(true,7),(true,8),(true,9),(false,11),(true,12)] (by as_aux_lemma=>kernel_rfl) (by as_aux_lemma=>kernel_rfl) (Fr.refl _ _) ?_
 simp only [inOrder,jD,jE,jF,jG]
 iterate 3 (refine wpB2_pure fun K hK=>?_;go_simp;refine hK _ ?_;clear hK K)
 refine wpB2_val (.pointer (some ⟨p.tb,0,none⟩)) (by first | rfl | go_simp) (fun X hX=>by have cc:=(b2.fr hX nib).cell;go_simp) ?_
 simp only [Act.put,jA,jB,jC]
 iterate 1 (refine wpB2_pure fun K hK=>?_;go_simp;refine hK _ ?_;clear hK K)
 refine wpB2_val (.agg #[.int .i64 k,.int .i64 x,.bool o]) (by first | rfl | go_simp) (fun X hX=>by have cc:=(Bd.fr hX nbx).cell;go_simp) ?_
 simp only [Act.put,jA,jB,jC]
 refine wpB2_end ?_ ?_
 ·skip
  refine wpG_one fun K hK=>?_
  go_simp
  refine (kS _ h2.tab).mono ?_
  rintro e w2 ⟨rfl,hT,hf2⟩
  refine hK _ _ (hf2) ?_
  clear hK K
  iterate 3 (refine wpG_pure fun K hK=>?_;go_simp;refine hK _ ?_;clear hK K)
  refine wpG_one fun K hK=>?_
  go_simp
  refine hK _ _ (hf2.alloc _) ?_
  clear hK K
  refine wpG_one fun K hK=>?_
  go_simp
  refine hK _ _ (hf2.alloc _) ?_
  clear hK K
  iterate 1 (refine wpG_pure fun K hK=>?_;go_simp;refine hK _ ?_;clear hK K)
  refine wpG_end ?_
  obtain ⟨hs4,kL⟩:=fin w2 _ [] (h2.setT hT hf2 (fun k hk=>.inr (List.mem_singleton.1 hk))) (hstep.trans (Step.of_fr hf2 (fun k hk _=>by rw [List.mem_singleton.1 hk,h2.rm];rfl))) ((Fr.refl [] w2).alloc (.cells #[.int .i64 qk,.int .i64 qx,.bool qo] 216)) (fun k hk=>by cases hk)
  have c6:=(Blk.new w2 [.int .i64 qk,.int .i64 qx,.bool qo] 216).cell
  clear fin kS hT hf2 h2 hstep b2 Bd hset hl
  go_wp2_with fail
  refine kL.mono ?_
  rintro e w5 ⟨rfl,h5,hstep5⟩
  have hst:=hs4.trans hstep5
  go_wp2
  exact bodyPost_end (v:=.tuple #[]) (results_none rfl _ _ _) rfl ⟨rfl,h5,hst⟩
 ·have hfa:=(Fr.refl [] w1.drew).alloc (.cells #[.int .i64 0,.int .i64 0,.bool false] 216)
  have h3:=h2.fr0 hfa
  have B3:Blk (w1.drew.alloc (.cells #[.int .i64 0,.int .i64 0,.bool false] 216)) w1.heap.size [.int .i64 0,.int .i64 0,.bool false] 216:=Blk.new w1.drew [.int .i64 0,.int .i64 0,.bool false] 216
  refine wpG_one fun K hK=>?_
  go_simp
  refine hK _ _ ((Fr.refl _ _).alloc _) ?_
  clear hK K
  refine wpG_one fun K hK=>?_
  go_simp
  refine (kS _ h3.tab).mono ?_
  rintro e w2 ⟨rfl,hT,hf2⟩
  have hlm:p.mb<w1.heap.size:=h2.tab.lt.2
  have hsz:w1.drew.heap.size=w1.heap.size:=rfl
  have B4:=B3.fr hf2 (by simp;omega)
  have c4:=B4.cell
  have f4:=B4.frozen
  have l4:=B4.lt
  refine hK _ _ ((hfa.weak).trans' hf2) ?_
  clear hK K
  iterate 3 (refine wpG_pure fun K hK=>?_;go_simp;refine hK _ ?_;clear hK K)
  clear hsz
  have hfs:=Fr.set3 w2 w1.heap.size (.int .i64 qk) (.int .i64 qx) (.bool qo)
  refine wpG_one fun K hK=>?_
  go_simp
  refine hK _ _ (((hfa.weak).trans' hf2).trans1 hfs (Nat.le_refl w1.heap.size)) ?_
  clear hK K
  iterate 1 (refine wpG_pure fun K hK=>?_;go_simp;refine hK _ ?_;clear hK K)
  refine wpG_end ?_
  have hbx:w.heap.size≤w1.heap.size:=Nat.le_of_lt hzw
  obtain ⟨hs4,kL⟩:=fin w2 _ _ (h3.setT hT hf2 (fun k hk=>.inr (List.mem_singleton.1 hk))) ((hstep.trans (Step.fr0 hfa)).trans (Step.of_fr hf2 (fun k hk _=>by rw [List.mem_singleton.1 hk,h2.rm];rfl))) hfs (fun k hk=>by rw [List.mem_singleton.1 hk];exact hbx)
  have c6:=(((B4.setCell 0 (.int .i64 qk)).setCell 1 (.int .i64 qx)).setCell 2 (.bool qo)).cell
  clear fin kS hT hf2 h2 h3 hstep b2 Bd hset hl hfs hfa B3 B4 c4 f4 l4
  go_wp2_with fail
  refine kL.mono ?_
  rintro e w5 ⟨rfl,h5,hstep5⟩
  have hst:=hs4.trans hstep5
  go_wp2
  exact bodyPost_end (v:=.tuple #[]) (results_none rfl _ _ _) rfl ⟨rfl,h5,hst⟩
end
end Go.Proofs.YtffnihooekbcnaaGreat
namespace Go.Proofs.YtffnihooekbcnaaGreat
open Go.RowKit
abbrev strC (l:List UInt8):List Value:=[strL l]
abbrev SlT:=SlF strC
theorem SlT.at {w:World} {a:Option Addr} {cap n:Nat} {l:List (List UInt8)} (h:SlT w (.slice a n cap) l) {i:Nat} (hi:i<l.length):∃b off,a=some ⟨b,off,none⟩∧b<w.heap.size ∧
 w.cell? ⟨b,off+i,none⟩=some (strL (l.getD i [])):=by
 obtain ⟨a',cap',hv,_,_,hc⟩:=h.open
 cases hv
 obtain ⟨b,off,rfl,hb,hc⟩:=hc 1 (fun _=>rfl) (by omega) i _ (getD_some [] hi)
 have:=hc 0 _ rfl
 rw [Nat.mul_one,Nat.add_zero] at this
 exact ⟨b,off,rfl,hb,this⟩
theorem SlT.cell {w:World} {v:Value} {l:List (List UInt8)} (h:SlT w v l):∃a cap,v=.slice a l.length cap:=by
 obtain ⟨a,cap,rfl,_⟩:=h.open
 exact ⟨a,cap,rfl⟩
theorem flat_by (s:List UInt8):s.flatMap byC=s.map fun b=>Value.int .u8 (b.toNat:Int):=by
 induction s with
 | nil=>rfl
 | cons x l ih=>rw [List.flatMap_cons,ih];rfl
theorem conv_bytes (s:List UInt8) (w:World) (hs:s.length≤maxLen):∃v w',(convert 9 31 (strL s)).run Tryz.prog w=.ok v w'∧SlY w' v s∧okV v∧Fr [] w w':=by
 refine ⟨_,_,run_bytes_of_string w 9 31 5 ⟨s.toArray⟩ Tryz.underlying9 Tryz.underlying31 Tryz.underlying5,?_,?_,?_⟩
 ·have hz:(ByteArray.mk s.toArray).size=s.length:=size_str s
  refine ⟨some ⟨w.heap.size,0,none⟩,grownCap w (ByteArray.mk s.toArray).size 0 5,by rw [hz],by rw [←hz];exact grownCap_ge _ _ _ _,grownCap_le_maxLen _ _ _ _ (by rw [hz];exact hs),.inr ⟨w.heap.size,0,rfl,by simp,fun j u hu=>?_⟩⟩
  rw [flat_by,List.getElem?_map] at hu
  obtain ⟨b,hb,rfl⟩:=Option.map_eq_some_iff.1 hu
  obtain ⟨hj,hb⟩:=List.getElem?_eq_some_iff.1 hb
  rw [Nat.zero_add]
  refine (cell_of_row _ w.heap.size j _ _ _ (heap_alloc_new w.drew _)).trans ?_
  rw [bytesRow_at _ _ _ (by simpa using hj)]
  simp [hb]
 ·intro n cap h
  cases h
 ·exact (Fr.refl [] w).drew.alloc _
end Go.Proofs.YtffnihooekbcnaaGreat
namespace Go.Proofs.YtffnihooekbcnaaGreat
open Go.RowKit Go.Maps
attribute [local go_sem] mapAt_alloc mapAt_setCell mapAt_drew mapAt_drewN cells_str store_str
theorem neq_func_nil {P:Program} {t:TypeId} {a:Array TypeId} {b:Array TypeId} {c:Bool} (h:P.underlying t=some (.func a b c)) (w:World) (f:Fn) (x y:Array Value):(binOp .neq t (.func f x y) .nilFunc).run P w=.ok (.bool true) w:=by
 have h0:∀d:Nat,(Op.equalIn (d+1) t (.func f x y) .nilFunc).run P w=.ok false w:=fun d=>by
  simp [Op.equalIn,run_underlying h]
 simp only [binOp]
 simp [show Op.equal t (.func f x y) .nilFunc=Op.equalIn (9999+1) t (.func f x y) .nilFunc from rfl,h0]
theorem neq_nil_nil {P:Program} {t:TypeId} {a:Array TypeId} {b:Array TypeId} {c:Bool} (h:P.underlying t=some (.func a b c)) (w:World):(binOp .neq t .nilFunc .nilFunc).run P w=.ok (.bool false) w:=by
 have h0:∀d:Nat,(Op.equalIn (d+1) t .nilFunc .nilFunc).run P w=.ok true w:=fun d=>by
  simp [Op.equalIn,run_underlying h]
 simp only [binOp]
 simp [show Op.equal t .nilFunc .nilFunc=Op.equalIn (9999+1) t .nilFunc .nilFunc from rfl,h0]
def telPost (b:By) (w:World) (e:Ending) (w':World):Prop:=∃v,e=.returned v∧SlY w' v b∧okV v∧Fr [] w w'
theorem callFunc_enter {P : Program} {f : FuncId} {fn : Func} {c : Code} (hf : P.funcs[f]? = some fn) (hname : (fn.name == "runtime.NumGoroutine") = false) (hb : fn.body = some c) (args : Array Value) (w : World) : (callFunc f args).run P w = .ok (.enter f args) w := by
 have h1 : fn.name ≠ "runtime.NumGoroutine" := by simpa using hname
 simp [callFunc,hf,h1,hb]
def BelW (ib:Nat) (M:Img) (p:Pl) (w:World) (fv:Value) (bel:List By):Prop :=
 (bel=[]∧fv=.nilFunc)∨∃(n:FuncId) (caps:Array Value) (G:Pl→World→Prop),fv=.func (.func n) #[] caps∧G p w∧(∀w p w' p',G p w→Step w p w' p'→G p' w')∧(∀(a:Array Value) (W:World),(callFunc n a).run Tryz.prog W=.ok (.enter n a) W) ∧
   ∀(M':Img) (q:Pl) (W:World) (c:Nat),G q W→ImgW W ib q M'→OkI M'→M'.B=M.B→M'.t.length=M.t.length→(M'.t.getD c zS).1=0→Calls Tryz.prog n (#[.int .i64 (c:Int)]++caps) W (telPost (bel.getD c []) W)
theorem BelW.nil (ib:Nat) (M:Img) (p:Pl) (w:World):BelW ib M p w .nilFunc []:=.inl ⟨rfl,rfl⟩
theorem BelW.step {ib:Nat} {M:Img} {p p':Pl} {w w':World} {fv:Value} {bel:List By} (h:BelW ib M p w fv bel) (hs:Step w p w' p'):BelW ib M p' w' fv bel:=by
 rcases h with h | ⟨n,caps,G,rfl,hG,hS,hE,hC⟩
 ·exact .inl h
 ·exact .inr ⟨n,caps,G,rfl,hS _ _ _ _ hG hs,hS,hE,hC⟩
theorem BelW.fr0 {ib:Nat} {M:Img} {p:Pl} {w w':World} {fv:Value} {bel:List By} (h:BelW ib M p w fv bel) (hf:Fr [] w w'):BelW ib M p w' fv bel:=h.step (Step.fr0 hf)
theorem BelW.img {ib:Nat} {M R:Img} {p:Pl} {w:World} {fv:Value} {bel:List By} (h:BelW ib M p w fv bel) (hB:R.B=M.B) (ht:R.t.length=M.t.length):BelW ib R p w fv bel:=by
 rcases h with h | ⟨n,caps,G,rfl,hG,hS,hE,hC⟩
 ·exact .inl h
 ·exact .inr ⟨n,caps,G,rfl,hG,hS,hE,fun M' q W c h1 h2 h3 h4 h5=>hC M' q W c h1 h2 h3 (h4.trans hB) (h5.trans ht)⟩
def cluB (M:Img) (c:Nat) (bel:List By):By:=if (M.t.getD c zS).1=1 then (M.d (hst (M.t.getD c zS))).getD [] else if (M.t.getD c zS).1=0∧(bel.getD c []).length=M.z then bel.getD c [] else zBy M.z
theorem cluB_nil (M:Img) (c:Nat):cluB M c []=conC M c:=by
 unfold cluB conC conS
 have hz:0<M.z:=by unfold Img.z;have:=Nat.two_pow_pos M.B;omega
 split
 ·rfl
 ·rw [if_neg]
  rintro ⟨_,h⟩
  simp at h
  omega
theorem cluB_len {M:Img} (h:OkJ M) (c:Nat) (bel:List By):(cluB M c bel).length=M.z:=by
 unfold cluB
 split
 ·rename_i h1
  have:=h.conc c
  unfold conC conS at this
  rwa [if_pos h1] at this
 ·split
  ·rename_i h2;exact h2.2
  ·simp [zBy]
section
variable {ib:Nat} {p:Pl} {M:Img}
theorem lookM (h:Nat) (h512:h<512) {es:Array MapEntry} {clock:Nat} (hi:IsM Tryz.prog 3 es clock (datM M p)) {b:By} (hb:M.d h=some b) (X:World) (hm:mapAt X p.db=some (es,clock)) :
 (Instr.lookup 157 (.map (some p.db)) (.int .i64 (h:Int)) false).run Tryz.prog X=.ok (p.dv h) X:=by
 rw [run_lookup_isM Tryz.underlying157 keyInt hi false (keyH h512) X (z:=.slice none 0 0) (by kernel_rfl) hm,datM_nat,hb]
 rfl
def cluPost (w:World) (b:By) (e:Ending) (w':World):Prop:=∃v,e=.returned v∧w'.ownsRow w.heap.size 5 1 v b.length (b.flatMap byC)∧Fr [] w w'
theorem iCluster_calls (c:Nat) (fv:Value) (bel:List By) (w:World) (h:ImgW w ib p M) (hok:OkI M) (hbel:BelW ib M p w fv bel) :
 Calls Tryz.prog 130 #[.pointer (some ⟨ib,0,none⟩),.int .i64 (c:Int),fv] w (cluPost w (cluB M c bel)):=by
 have b1:=h.blk
 have c1:=b1.cell
 have kG:=Get_calls p.tb p.mb M.t c w h.tab
 rw [tget_nat] at kG
 have hlen:=cluB_len hok.toOkJ c bel
 have hz:M.z≤128:=by
  unfold Img.z
  have:2 ^ M.B≤2 ^ 3:=Nat.pow_le_pow_right (by omega) hok.B
  omega
 have Hin:Hid ((M.t.getD c zS).1=1→M.t.getD c zS∈M.t):=hidIt (fun h1=>by
  by_cases hc:c<M.t.length
  ·exact getD_memS hc
  ·rw [getD_outS hc] at h1;simp [zS] at h1)
 have Hclu:Hid (cluB M c bel=if (M.t.getD c zS).1=1 then (M.d (hst (M.t.getD c zS))).getD [] else if (M.t.getD c zS).1=0∧(bel.getD c []).length=M.z then bel.getD c [] else zBy M.z):=hidIt rfl
 generalize cluB M c bel=R at *
 generalize hsd:M.t.getD c zS=s at *
 obtain ⟨k,x,o⟩:=s
 replace hsd:=hidIt hsd
 unfold slotV at kG
 simp only at kG Hin Hclu
 go_enter Tryz.func130,Tryz.ntmps130
 go_wp2_with fail
 refine kG.mono ?_
 rintro e w1 ⟨rfl,hf1⟩
 have h1:=h.fr0 hf1
 have hfa:=(Fr.refl [] w1).alloc (.cells #[.int .i64 k,.int .i64 x,.bool o] 216)
 have h2:=h1.fr0 hfa
 have B2:=Blk.new w1 [.int .i64 k,.int .i64 x,.bool o] 216
 have hF2:=hf1.trans0 hfa
 have b2:=h2.blk
 have c2:=b2.cell
 have d2:=B2.cell
 clear kG h1 hfa c1 b1
 by_cases hk:k=1
 ·subst hk
  have hmem:=Hin.out rfl
  have hlive:=hok.live hmem rfl
  obtain ⟨b,hb,hbl⟩:=hok.dat _ hlive
  obtain ⟨hx,h512⟩:=host_nat (hok.right _ hmem) rfl
  have hR:R=b:=by rw [Hclu.out,if_pos rfl,hb];rfl
  subst hR
  simp only at hx
  generalize hst ((1:Int),x,o)=y at *
  subst hx
  clear Hclu hmem Hin hlive
  go_wp2_with fail
  generalize w1.alloc (.cells #[.int .i64 1,.int .i64 (y:Int),.bool o] 216)=w2 at *
  have hd:Fr [] w2 w2.drew:=(Fr.refl [] w2).drew
  obtain ⟨es,clock,hm,hi⟩:=(h2.fr0 hd).dat
  have kC:=CloneY_calls (p.dv y) R w2.drew (SlF.of_owns (h2.byt y R hb)) (by omega)
  refine wp_region_G (Fr [] w2.drew) [(true,0),(true,1),(true,2),(true,3),(true,4),(true,5),(true,6),(false,7),(true,8)] (by as_aux_lemma=>kernel_rfl) (by as_aux_lemma=>kernel_rfl) (Fr.refl _ _) ?_
  simp only [inOrder,jD,jE,jF,jG]
  iterate 3 (refine wpG_pure fun K hK=>?_;go_simp;refine hK _ ?_;clear hK K)
  refine wpG_val (.map (some p.db)) (by first | rfl | go_simp) (fun X hX=>by have cc:=((b2.drew).fr0 hX).cell;go_simp) ?_
  simp only [Act.put,jA,jB,jC]
  iterate 1 (refine wpG_pure fun K hK=>?_;go_simp;refine hK _ ?_;clear hK K)
  refine wpG_val (.int .i64 (y:Int)) (by first | rfl | go_simp) (fun X hX=>by have cc:=((B2.drew).fr0 hX).cell;go_simp) ?_
  simp only [Act.put,jA,jB,jC]
  refine wpG_val (p.dv y) (by first | rfl | go_simp) (fun X hX=>by have cc:=lookM y h512 hi hb X (mapAt_fr hm hX (by simp));go_simp) ?_
  simp only [Act.put,jA,jB,jC]
  refine wpG_one fun K hK=>?_
  go_simp
  refine (kC).mono ?_
  rintro e w3 ⟨v,rfl,hown,hf3⟩
  refine hK _ _ (hf3) ?_
  clear hK K
  iterate 1 (refine wpG_pure fun K hK=>?_;go_simp;refine hK _ ?_;clear hK K)
  refine wpG_end ?_
  have hF3:=(hF2.trans0 hd).trans0 hf3
  have hown3:=owns_base (base':=w.heap.size) hown (by have:=(hF2.trans0 hd).size;exact this)
  clear h2 hbel hi hm b2 B2 c2 d2 kC hown
  go_wp2
  go_ret
  exact ⟨_,rfl,hown3,hF3⟩
 ·have hk1:(k == 1)=false:=by simpa using hk
  have zero:∀W,Fr [] (w1.alloc (.cells #[.int .i64 k,.int .i64 x,.bool o] 216)) W→R=zBy M.z→Calls Tryz.prog 142 #[.pointer (some ⟨ib,0,none⟩)] W fun e w'=>e=.returned (.int .i64 (M.z:Nat))∧W=w':=fun W hW _=>iBytes_calls W (h2.fr0 hW) hok.B
  rcases hbel with ⟨rfl,rfl⟩ | ⟨nf,caps,G,rfl,hG,hGs,hGe,hGc⟩
  ·have hR:R=zBy M.z:=by
    rw [Hclu.out,if_neg hk,if_neg]
    rintro ⟨_,h⟩
    have:0<M.z:=by unfold Img.z;have:=Nat.two_pow_pos M.B;omega
    simp at h
    omega
   have kB:=zero _ (Fr.refl _ _) hR
   obtain ⟨w9,hrun,hown,hg⟩:=makeY M.z (w1.alloc (.cells #[.int .i64 k,.int .i64 x,.bool o] 216)) (by omega)
   have hF9:=hF2.grown hg (fun x hx=>by cases hx)
   have hown9:=owns_base (base':=w.heap.size) hown (by have:=hF2.size;exact this)
   have hzl:(zBy M.z).length=M.z:=by simp [zBy]
   have hsz:(w1.alloc (.cells #[.int .i64 k,.int .i64 x,.bool o] 216)).heap.size=w1.heap.size+1:=by simp
   rw [hsz] at hown9
   have hown9':w9.ownsRow w.heap.size 5 1 (.slice (some ⟨w1.heap.size+1,0,none⟩) M.z M.z) R.length (R.flatMap byC):=by rw [hR,hzl];exact hown9
   have hnil:=fun W=>neq_nil_nil (P:=Tryz.prog) (t:=132) Tryz.underlying132 W
   have Hown:=hidIt hown9'
   clear hown9 hown9' hown hzl hsz Hclu Hin zero hk hR hg hlen
   by_cases hk0:k=0
   ·subst hk0
    go_wp2_with fail
    refine kB.mono ?_
    rintro e w3 ⟨rfl,rfl⟩
    go_wp2
    go_ret
    exact ⟨_,rfl,Hown.out,hF9⟩
   ·have hk0':(k == 0)=false:=by simpa using hk0
    clear hk0
    go_wp2_with fail
    refine kB.mono ?_
    rintro e w3 ⟨rfl,rfl⟩
    go_wp2
    go_ret
    exact ⟨_,rfl,Hown.out,hF9⟩
  ·have hne':=fun W=>neq_func_nil (P:=Tryz.prog) (t:=132) Tryz.underlying132 W (.func nf) #[] caps
   have kT:=fun h0=>hGc M p _ c (hGs _ _ _ _ hG (Step.fr0 hF2)) h2 hok rfl rfl h0
   have fin:∀W,Fr [] (w1.alloc (.cells #[.int .i64 k,.int .i64 x,.bool o] 216)) W→R=zBy M.z→∃w9,(Instr.makeSlice 31 (.int .i64 (M.z:Int)) (.int .i64 (M.z:Int))).run Tryz.prog W=.ok (.slice (some ⟨W.heap.size,0,none⟩) M.z M.z) w9 ∧
    Hid (w9.ownsRow w.heap.size 5 1 (.slice (some ⟨W.heap.size,0,none⟩) M.z M.z) R.length (R.flatMap byC))∧Fr [] w w9:=fun W hW hR=>by
    obtain ⟨w9,hrun,hown,hg⟩:=makeY M.z W (by omega)
    have hzl:(zBy M.z).length=M.z:=by simp [zBy]
    have hFW:=hF2.trans0 hW
    exact ⟨w9,hrun,hidIt (by rw [hR,hzl];exact owns_base hown hFW.size),hFW.grown hg (fun x hx=>by cases hx)⟩
   by_cases hk0:k=0
   ·subst hk0
    replace kT:=kT (by rw [hsd.out])
    generalize hbd:bel.getD c []=q at *
    replace hbd:=hidIt hbd
    replace hGc:=hidIt hGc
    replace hGs:=hidIt hGs
    go_wp2_with fail
    refine kT.mono ?_
    rintro e w3 ⟨v,rfl,hsy,hvok,hf3⟩
    obtain ⟨va,vc,rfl,hvl,hvm,_⟩:=SlF.open hsy
    have kB3:=iBytes_calls w3 (h2.fr0 hf3) hok.B
    have kC:=fun hl=>CloneY_calls (.slice va q.length vc) q w3 hsy hl
    have hF3:=hF2.trans0 hf3
    by_cases hql:q.length=M.z
    ·have hR:R=q:=by rw [Hclu.out,if_neg hk,if_pos ⟨by simp,hql⟩]
     subst hR
     have kC':=kC (by omega)
     rw [hlen] at kC'
     have Hlen:=hidIt hlen
     clear Hclu Hin fin zero hk hbd hql kC
     go_wp2_with fail
     refine kB3.mono ?_
     rintro e w5 ⟨rfl,rfl⟩
     go_wp2_with fail
     refine kC'.mono ?_
     rintro e w6 ⟨v6,rfl,hown,hf6⟩
     have hF6:=hF3.trans0 hf6
     have Hown:=hidIt (owns_base (base':=w.heap.size) hown hF3.size)
     clear hown
     go_wp2
     go_ret
     exact ⟨_,rfl,by first | exact Hown.out | (rw [Hlen.out];exact Hown.out),hF6⟩
    ·have hR:R=zBy M.z:=by rw [Hclu.out,if_neg hk,if_neg (fun h=>hql h.2)]
     have hql':((q.length:Int) == (M.z:Int))=false:=by
      have:(q.length:Int)≠(M.z:Int):=by omega
      simpa using this
     obtain ⟨w9,hrun,Hown,hF9⟩:=fin w3 hf3 hR
     clear Hclu Hin fin zero hk hbd hql kC hR
     go_wp2_with fail
     refine kB3.mono ?_
     rintro e w5 ⟨rfl,rfl⟩
     go_wp2_with fail
     refine kB3.mono ?_
     rintro e w6 ⟨rfl,rfl⟩
     go_wp2
     go_ret
     exact ⟨_,rfl,Hown.out,hF9⟩
   ·have hk0':(k == 0)=false:=by simpa using hk0
    have hR:R=zBy M.z:=by rw [Hclu.out,if_neg hk,if_neg (fun h=>hk0 h.1)]
    have kB:=zero _ (Fr.refl _ _) hR
    obtain ⟨w9,hrun,Hown,hF9⟩:=fin _ (Fr.refl _ _) hR
    clear Hclu Hin fin zero hk hR kT hk0
    have hsz:(w1.alloc (.cells #[.int .i64 k,.int .i64 x,.bool o] 216)).heap.size=w1.heap.size+1:=by simp
    rw [hsz] at hrun Hown
    clear hsz
    go_wp2_with fail
    refine kB.mono ?_
    rintro e w3 ⟨rfl,rfl⟩
    go_wp2
    go_ret
    exact ⟨_,rfl,Hown.out,hF9⟩
end
end Go.Proofs.YtffnihooekbcnaaGreat
