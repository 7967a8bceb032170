/-
  Package chain: does, Write, Zero, Discard (clusters of two sectors).
-/
import Derived.Test.YtffnihooekbcnaaGreatG14
set_option maxRecDepth 100000
set_option maxHeartbeats 6400000
namespace Go.Proofs.YtffnihooekbcnaaGreat
open Go.RowKit Go.Maps
attribute [local go_sem] mapAt_alloc mapAt_setCell mapAt_drew mapAt_drewN cells_str store_str eql_str neq_str guard_str len_str
def belL (D:List Dk) (n:Nat) (p:List By):List By:=(List.range n).map fun k=>seenC D 32 p k
theorem belL_at (D:List Dk) (n:Nat) (p:List By) (k:Nat):(belL D n p).getD k []=if k<n then seenC D 32 p k else []:=by
 unfold belL
 by_cases h:k<n
 ·rw [if_pos h,List.getD_eq_getElem?_getD,List.getElem?_eq_getElem (by simpa using h)]
  simp
 ·rw [if_neg h,List.getD_eq_getElem?_getD,List.getElem?_eq_none (by simpa using h)]
  rfl
section
variable {w w':World} {cb mb room:Nat} {L:List Cd}
theorem chDoes1_calls (s:By) (p:List By) (n k b1 b2:Nat) (h:ChG noEx w cb mb 1 room L) (hI:ImsK n L) (hp:IsPath (L.map (·.x)) s p) (hn:∀c∈L,c.nm.length≤maxLen) (hp8:p.length≤64) (hn2:n≤256)
 (hb1:Blk w b1 [.pointer (some ⟨cb,0,none⟩)] 51) (hb2:Blk w b2 [strL s] 9) :
 Calls Tryz.prog 137 #[.int .i64 (k:Int),.pointer (some ⟨b1,0,none⟩),.pointer (some ⟨b2,0,none⟩)] w (telPost (viewK L n s p k) w):=by
 have c1:=hb1.cell
 have c2:=hb2.cell
 have kC:=chCluster_calls s p n k h hI hp hn hp8 hn2
 unfold telPost
 generalize viewK L n s p k=V at *
 clear h hI hp hn
 go_enter Tryz.func137,Tryz.ntmps137
 go_wp2_with fail
 refine kC.mono ?_
 rintro e w2 ⟨v,rfl,hv,hok,_,hf2⟩
 clear kC
 go_wp2
 go_ret
 exact ⟨_,rfl,hv,hok,hf2⟩
theorem ImsK.set {n:Nat} {s:By} {q:Pl} {M:Img} (h:ImsK n L) (h1:OkI M) (h2:M.B=1) (h3:M.t.length=n):ImsK n (setK L s q M):=fun c hc=>by
 obtain ⟨d,hd,_,_,_,_,h5⟩:=mem_setK hc
 rcases h5 with ⟨_,_,h6⟩ | ⟨_,h6⟩
 ·rw [h6];exact ⟨h1,h2,h3⟩
 ·rw [h6];exact h d hd
theorem names_set {s:By} {q:Pl} {M:Img} (hn:∀c∈L,c.nm.length≤maxLen):∀c∈setK L s q M,c.nm.length≤maxLen:=fun c hc=>by
 obtain ⟨d,hd,h1,_⟩:=mem_setK hc
 rw [h1];exact hn d hd
theorem bel_chain {s:By} {p:List By} {n b1 b2:Nat} {c:Cd} (h:ChG noEx w cb mb 1 room L) (hI:ImsK n L) (hp:IsPath (L.map (·.x)) s p) (hc:fK L s=some c) (hn:∀c∈L,c.nm.length≤maxLen) (hp8:p.length≤64) (hn2:n≤256)
 (hb1:Blk w b1 [.pointer (some ⟨cb,0,none⟩)] 51) (hb2:Blk w b2 [strL s] 9) (h1:c.p.r b1=none) (h2:c.p.r b2=none) :
 BelW c.ib c.x.M c.p w (.func (.func 137) #[] #[.pointer (some ⟨b1,0,none⟩),.pointer (some ⟨b2,0,none⟩)]) (belL (L.map (·.x)) n p):=by
 have hcn:=(nlFind_mem hc).2
 have hcm:=(nlFind_mem hc).1
 refine .inr ⟨_,_,fun q W=>Blk W b1 [.pointer (some ⟨cb,0,none⟩)] 51∧Blk W b2 [strL s] 9∧q.r b1=none∧q.r b2=none∧ChG (fun t=>t=s) W cb mb 1 room (setK L s q c.x.M),rfl,⟨hb1,hb2,h1,h2,?_⟩,?_,fun a W=>callFunc_enter Tryz.func137 (by kernel_rfl) rfl a W,?_⟩
 ·have:=h.step hc (fun _ h=>h.elim) (Step.refl w c.p) c.x.M
  exact this
 ·rintro w p w' p' ⟨g1,g2,g3,g4,g5⟩ hs
  have nn:∀k,k<w.heap.size→p.r k=none→k ∉ own p w∧p'.r k=none:=fun k hk hr=>by
   refine ⟨fun hm=>(by have:=(mem_own.1 hm).2;rw [hr] at this;cases this),?_⟩
   cases h':p'.r k with
   | none=>rfl
   | some x =>
     rcases hs.new k (by rw [h'];rfl) with h1 | h1
     ·rw [hr] at h1;cases h1
     ·omega
  refine ⟨g1.fr hs.fr (nn _ g1.lt g3).1,g2.fr hs.fr (nn _ g2.lt g4).1,(nn _ g1.lt g3).2,(nn _ g2.lt g4).2,?_⟩
  have hf:fK (setK L s p c.x.M) s=some (c.put p c.x.M):=by rw [fK_set,hc];simp
  have:=g5.step (p':=p') hf (fun _ h=>h) hs c.x.M
  rw [setK_again] at this
  exact this
 ·rintro M' q W k ⟨g1,g2,g3,g4,g5⟩ hIm hok hB ht h0
  have hB1:M'.B=1:=hB.trans (hI c hcm).2.1
  have htn:M'.t.length=n:=ht.trans (hI c hcm).2.2
  have hch:=(g5.any M').fill h.rising hc hIm
  have hpath:IsPath ((setK L s q M').map (·.x)) s p:=by rw [setK_x];exact path_setM hp
  have hcall:=chDoes1_calls s p n k b1 b2 hch (hI.set hok hB1 htn) hpath (names_set hn) hp8 hn2 g1 g2
  have e:viewK (setK L s q M') n s p k=(belL (L.map (·.x)) n p).getD k []:=by
   rw [belL_at]
   unfold viewK
   split
   ·rw [setK_x,seen_setM_top hp]
    unfold visC
    rw [if_pos h0]
   ·rfl
  rw [e] at hcall
  exact hcall
theorem chDoes_calls (s:By) (c:Cd) (F:FuncId) (x y:Value) {R:Int→World→Prop} (h:ChG noEx w cb mb 1 room L) (hc:fK L s=some c) (hn:s.length≤maxLen) (hE:∀(a:Array Value) (W:World),(callFunc F a).run Tryz.prog W=.ok (.enter F a) W)
 (hQ:∀W b1 b2,Fr [] w W→Blk W b1 [.pointer (some ⟨cb,0,none⟩)] 51→Blk W b2 [strL s] 9→w.heap.size≤b1→w.heap.size≤b2 →
   Calls Tryz.prog F #[.pointer (some ⟨c.ib,0,none⟩),.func (.func 137) #[] #[.pointer (some ⟨b1,0,none⟩),.pointer (some ⟨b2,0,none⟩)],x,y] W fun e w'=>∃i,e=.returned (.int .i64 i)∧R i w') :
 Calls Tryz.prog 79 #[.pointer (some ⟨cb,0,none⟩),strL s,.func (.func F) #[] #[x,y]] w fun e w'=>∃i,e=.returned (.int .i64 i)∧R i w':=by
 obtain ⟨S,hS⟩:∃S,Hid (strL s=Value.string S):=⟨_,hidIt rfl⟩
 have hlk:=h.look hn
 rw [hc] at hlk
 unfold kpt Cd.ptr at hlk
 have hck:=fun X (hX:Fr [] w X)=>(h.blk.fr0 hX).cell
 have hdk:=fun X (hX:Fr [] w X)=>((h.dks c (nlFind_mem hc).1).fr0 hX).cell 0
 rw [hS.out] at hlk hQ ⊢
 have hf0:=((Fr.refl [] w).alloc (.cells #[.pointer (some ⟨cb,0,none⟩)] 51)).alloc (.cells #[.string S] 9)
 have B1:=(Blk.new w [.pointer (some ⟨cb,0,none⟩)] 51).alloc (.cells #[.string S] 9)
 have B2:=Blk.new' (w:=w.alloc (.cells #[.pointer (some ⟨cb,0,none⟩)] 51)) (n:=w.heap.size+1) (by simp) [.string S] 9
 generalize hw1:(w.alloc (.cells #[.pointer (some ⟨cb,0,none⟩)] 51)).alloc (.cells #[.string S] 9)=w1 at *
 have hdr:=(Fr.refl [] w1).drew
 have hq:=hidIt hw1
 clear h hw1
 go_enter Tryz.func79,Tryz.ntmps79
 go_wp2_with fail
 rw [hq.out]
 refine wp_region_G (fun X=>Fr [] w1.drew X) [(true,0),(true,1),(true,2),(true,3),(true,4),(true,5),(true,6)] (by as_aux_lemma=>kernel_rfl) (by as_aux_lemma=>kernel_rfl) (Fr.refl _ _) ?_
 simp only [inOrder,jD,jE,jF,jG]
 refine wpG_val (.pointer (some ⟨cb,0,none⟩)) (by first | rfl | go_simp) (fun X hX=>by have cc:=(B1.fr0 (hdr.trans0 hX)).cell;go_simp) ?_
 simp only [Act.put,jA,jB,jC]
 iterate 2 (refine wpG_pure fun K hK=>?_;go_simp;refine hK _ ?_;clear hK K)
 refine wpG_val (.map (some mb)) (by first | rfl | go_simp) (fun X hX=>by have cc:=hck X (hf0.trans0 (hdr.trans0 hX));go_simp) ?_
 simp only [Act.put,jA,jB,jC]
 refine wpG_val (.string S) (by first | rfl | go_simp) (fun X hX=>by have cc:=(B2.fr0 (hdr.trans0 hX)).cell;go_simp) ?_
 simp only [Act.put,jA,jB,jC]
 refine wpG_val (.pointer (some ⟨c.db,0,none⟩)) (by first | rfl | go_simp) (fun X hX=>by have cc:=hlk X (hf0.trans0 (hdr.trans0 hX));go_simp) ?_
 simp only [Act.put,jA,jB,jC]
 iterate 1 (refine wpG_pure fun K hK=>?_;go_simp;refine hK _ ?_;clear hK K)
 refine wpG_end ?_
 have hFd:=hf0.trans0 hdr
 have hd1:=hdk _ hFd
 have kQ:=hQ w1.drew w.heap.size (w.heap.size+1) hFd (B1.fr0 hdr) (B2.fr0 hdr) (Nat.le_refl _) (by omega)
 clear hlk hck hdk hQ hq
 go_wp2_with fail
 refine kQ.mono ?_
 rintro e w3 ⟨i,rfl,hR⟩
 clear kQ hd1
 go_wp2
 go_ret
 exact ⟨_,rfl,hR⟩
def chResPost (w:World) (cb mb room:Nat) (L:List Cd) (s:By) (r:Int × Img) (e:Ending) (w':World):Prop :=
 ∃i,e=.returned (.int .i64 i)∧i=r.1∧∃p',ChG noEx w' cb mb 1 room (setK L s p' r.2)∧StepO w (chO cb mb L) w' (chO cb mb (setK L s p' r.2))
theorem chRes_of {s:By} {c:Cd} {r:Int × Img} {W:World} {e:Ending} (h:ChG noEx w cb mb 1 room L) (hc:fK L s=some c) (hf:Fr [] w W) (hp:resPost W c.ib c.p r e w'):∃i,e=.returned (.int .i64 i)∧(i=r.1∧∃p',ChG noEx w' cb mb 1 room (setK L s p' r.2)∧StepO w (chO cb mb L) w' (chO cb mb (setK L s p' r.2))):=by
 obtain ⟨p',rfl,hI,hs⟩:=hp
 exact ⟨_,rfl,rfl,p',(h.fr0 hf).put hc hI hs,(StepO.fr0 hf).trans (chO_step (h.fr0 hf) hc hs)⟩
theorem chWrite_calls (s:By) (p:List By) (n:Nat) (c:Cd) (x:Int) (vb:Value) (b:By) (h:ChG noEx w cb mb 1 room L) (hI:ImsK n L) (hp:IsPath (L.map (·.x)) s p) (hc:fK L s=some c) (hn:∀c∈L,c.nm.length≤maxLen) (hp8:p.length≤64) (hn2:n≤256)
 (hvb:SlY w vb b) (hvr:0<b.length→far c.p vb):Calls Tryz.prog 40 #[.pointer (some ⟨cb,0,none⟩),strL s,.int .i64 x,vb] w (chResPost w cb mb room L s (writeE c.x.M x b (belL (L.map (·.x)) n p))):=by
 have hcm:=(nlFind_mem hc).1
 have hcl:s.length≤maxLen:=by rw [←(nlFind_mem hc).2];exact hn c hcm
 have hf0:=((Fr.refl [] w).alloc (.cells #[.int .i64 x] 3)).alloc (.cells #[vb] 31)
 have B1:=(Blk.new w [.int .i64 x] 3).alloc (.cells #[vb] 31)
 have B2:=Blk.new' (w:=w.alloc (.cells #[.int .i64 x] 3)) (n:=w.heap.size+1) (by simp) [vb] 31
 generalize hw1:(w.alloc (.cells #[.int .i64 x] 3)).alloc (.cells #[vb] 31)=w1 at *
 have hz1:=hf0.size
 have hz2:w.heap.size+1<w1.heap.size:=B2.lt
 have hq:=hidIt hw1
 have kD:=chDoes_calls s c 80 (.pointer (some ⟨w.heap.size,0,none⟩)) (.pointer (some ⟨w.heap.size+1,0,none⟩)) (R:=fun i w'=>i=(writeE c.x.M x b (belL (L.map (·.x)) n p)).1∧∃p',ChG noEx w' cb mb 1 room (setK L s p' (writeE c.x.M x b (belL (L.map (·.x)) n p)).2)∧StepO w (chO cb mb L) w' (chO cb mb (setK L s p' (writeE c.x.M x b (belL (L.map (·.x)) n p)).2)))
  (h.fr0 hf0) hc hcl (fun a W=>callFunc_enter Tryz.func80 (by kernel_rfl) rfl a W) (fun W b1 b2 hF hb1 hb2 hn1 hn2'=>by
    have hFw:=hf0.trans0 hF
    have hIc:=(h.img c hcm (fun h=>h)).fr0 hFw
    have hnew:∀k,w.heap.size≤k→c.p.r k=none:=fun k hk=>(h.img c hcm (fun h=>h)).new hk
    have hbel:=bel_chain (h.fr0 hFw) hI hp hc hn hp8 hn2 hb1 hb2 (hnew _ (by omega)) (hnew _ (by omega))
    have kI:=iWrite_calls x vb b _ _ W hIc (hI c hcm).1 (slY_fr0 hvb hFw) hvr hbel
    have d1:=(B1.fr0 hF).cell
    have d2:=(B2.fr0 hF).cell
    obtain ⟨va,vc,rfl,_⟩:=SlF.open hvb
    have hfin:=fun e w' hp=>chRes_of (e:=e) (w':=w') (r:=writeE c.x.M x b (belL (L.map (·.x)) n p)) h hc hFw hp
    clear hbel hIc hI hp hn h hvb hvr B1 B2
    generalize writeE c.x.M x b (belL (L.map (·.x)) n p)=r at *
    go_enter Tryz.func80,Tryz.ntmps80
    go_wp2_with fail
    refine kI.mono ?_
    intro e w' hp
    obtain ⟨i,rfl,hR⟩:=hfin e w' hp
    have hR':=hidIt hR
    clear hp hR hfin kI
    go_wp2
    go_ret
    exact ⟨_,rfl,hR'.out⟩)
 unfold chResPost
 generalize writeE c.x.M x b (belL (L.map (·.x)) n p)=r at *
 obtain ⟨va,vc,rfl,_⟩:=SlF.open hvb
 clear hvr hvb hI hp h hn
 go_enter Tryz.func40,Tryz.ntmps40
 go_wp2_with fail
 try rw [hq.out]
 refine kD.mono ?_
 rintro e w3 ⟨i,rfl,hR⟩
 have hR':=hidIt hR
 clear kD hR hq
 go_wp2
 go_ret
 exact ⟨_,rfl,hR'.out.1,hR'.out.2⟩
theorem chZero_calls (s:By) (p:List By) (n:Nat) (c:Cd) (x l:Int) (h:ChG noEx w cb mb 1 room L) (hI:ImsK n L) (hp:IsPath (L.map (·.x)) s p) (hc:fK L s=some c) (hn:∀c∈L,c.nm.length≤maxLen) (hp8:p.length≤64) (hn2:n≤256):Calls Tryz.prog 42 #[.pointer (some ⟨cb,0,none⟩),strL s,.int .i64 x,.int .i64 l] w (chResPost w cb mb room L s (zeroE c.x.M x l (belL (L.map (·.x)) n p))):=by
 have hcm:=(nlFind_mem hc).1
 have hcl:s.length≤maxLen:=by rw [←(nlFind_mem hc).2];exact hn c hcm
 have hf0:=((Fr.refl [] w).alloc (.cells #[.int .i64 x] 3)).alloc (.cells #[.int .i64 l] 3)
 have B1:=(Blk.new w [.int .i64 x] 3).alloc (.cells #[.int .i64 l] 3)
 have B2:=Blk.new' (w:=w.alloc (.cells #[.int .i64 x] 3)) (n:=w.heap.size+1) (by simp) [.int .i64 l] 3
 generalize hw1:(w.alloc (.cells #[.int .i64 x] 3)).alloc (.cells #[.int .i64 l] 3)=w1 at *
 have hz1:=hf0.size
 have hz2:w.heap.size+1<w1.heap.size:=B2.lt
 have hq:=hidIt hw1
 have kD:=chDoes_calls s c 82 (.pointer (some ⟨w.heap.size,0,none⟩)) (.pointer (some ⟨w.heap.size+1,0,none⟩)) (R:=fun i w'=>i=(zeroE c.x.M x l (belL (L.map (·.x)) n p)).1∧∃p',ChG noEx w' cb mb 1 room (setK L s p' (zeroE c.x.M x l (belL (L.map (·.x)) n p)).2)∧StepO w (chO cb mb L) w' (chO cb mb (setK L s p' (zeroE c.x.M x l (belL (L.map (·.x)) n p)).2)))
  (h.fr0 hf0) hc hcl (fun a W=>callFunc_enter Tryz.func82 (by kernel_rfl) rfl a W) (fun W b1 b2 hF hb1 hb2 hn1 hn2'=>by
    have hFw:=hf0.trans0 hF
    have hIc:=(h.img c hcm (fun h=>h)).fr0 hFw
    have hnew:∀k,w.heap.size≤k→c.p.r k=none:=fun k hk=>(h.img c hcm (fun h=>h)).new hk
    have hbel:=bel_chain (h.fr0 hFw) hI hp hc hn hp8 hn2 hb1 hb2 (hnew _ (by omega)) (hnew _ (by omega))
    have kI:=iZero_calls x l _ _ W hIc (hI c hcm).1 hbel
    have d1:=(B1.fr0 hF).cell
    have d2:=(B2.fr0 hF).cell
    have hfin:=fun e w' hp=>chRes_of (e:=e) (w':=w') (r:=zeroE c.x.M x l (belL (L.map (·.x)) n p)) h hc hFw hp
    clear hbel hIc hI hp hn h B1 B2
    generalize zeroE c.x.M x l (belL (L.map (·.x)) n p)=r at *
    go_enter Tryz.func82,Tryz.ntmps82
    go_wp2_with fail
    refine kI.mono ?_
    intro e w' hp
    obtain ⟨i,rfl,hR⟩:=hfin e w' hp
    have hR':=hidIt hR
    clear hp hR hfin kI
    go_wp2
    go_ret
    exact ⟨_,rfl,hR'.out⟩)
 unfold chResPost
 generalize zeroE c.x.M x l (belL (L.map (·.x)) n p)=r at *
 clear hI hp h hn
 go_enter Tryz.func42,Tryz.ntmps42
 go_wp2_with fail
 try rw [hq.out]
 refine kD.mono ?_
 rintro e w3 ⟨i,rfl,hR⟩
 have hR':=hidIt hR
 clear kD hR hq
 go_wp2
 go_ret
 exact ⟨_,rfl,hR'.out.1,hR'.out.2⟩
theorem chDiscard_calls (s:By) (n:Nat) (c:Cd) (x l:Int) (h:ChG noEx w cb mb 1 room L) (hI:ImsK n L) (hc:fK L s=some c) (hn:∀c∈L,c.nm.length≤maxLen):Calls Tryz.prog 44 #[.pointer (some ⟨cb,0,none⟩),strL s,.int .i64 x,.int .i64 l] w (chResPost w cb mb room L s (discardE c.x.M x l)):=by
 have hcm:=(nlFind_mem hc).1
 have hcl:s.length≤maxLen:=by rw [←(nlFind_mem hc).2];exact hn c hcm
 have hf0:=((Fr.refl [] w).alloc (.cells #[.int .i64 x] 3)).alloc (.cells #[.int .i64 l] 3)
 have B1:=(Blk.new w [.int .i64 x] 3).alloc (.cells #[.int .i64 l] 3)
 have B2:=Blk.new' (w:=w.alloc (.cells #[.int .i64 x] 3)) (n:=w.heap.size+1) (by simp) [.int .i64 l] 3
 generalize hw1:(w.alloc (.cells #[.int .i64 x] 3)).alloc (.cells #[.int .i64 l] 3)=w1 at *
 have hz1:=hf0.size
 have hz2:w.heap.size+1<w1.heap.size:=B2.lt
 have hq:=hidIt hw1
 have kD:=chDoes_calls s c 84 (.pointer (some ⟨w.heap.size,0,none⟩)) (.pointer (some ⟨w.heap.size+1,0,none⟩)) (R:=fun i w'=>i=(discardE c.x.M x l).1∧∃p',ChG noEx w' cb mb 1 room (setK L s p' (discardE c.x.M x l).2)∧StepO w (chO cb mb L) w' (chO cb mb (setK L s p' (discardE c.x.M x l).2)))
  (h.fr0 hf0) hc hcl (fun a W=>callFunc_enter Tryz.func84 (by kernel_rfl) rfl a W) (fun W b1 b2 hF _ _ _ _=>by
    have hFw:=hf0.trans0 hF
    have hIc:=(h.img c hcm (fun h=>h)).fr0 hFw
    have kI:=iDiscard_calls x l W hIc (hI c hcm).1
    have d1:=(B1.fr0 hF).cell
    have d2:=(B2.fr0 hF).cell
    have hfin:=fun e w' hp=>chRes_of (e:=e) (w':=w') (r:=discardE c.x.M x l) h hc hFw hp
    clear hIc hI hn h B1 B2
    generalize discardE c.x.M x l=r at *
    go_enter Tryz.func84,Tryz.ntmps84
    go_wp2_with fail
    refine kI.mono ?_
    intro e w' hp
    obtain ⟨i,rfl,hR⟩:=hfin e w' hp
    have hR':=hidIt hR
    clear hp hR hfin kI
    go_wp2
    go_ret
    exact ⟨_,rfl,hR'.out⟩)
 unfold chResPost
 generalize discardE c.x.M x l=r at *
 clear hI h hn
 go_enter Tryz.func44,Tryz.ntmps44
 go_wp2_with fail
 try rw [hq.out]
 refine kD.mono ?_
 rintro e w3 ⟨i,rfl,hR⟩
 have hR':=hidIt hR
 clear kD hR hq
 go_wp2
 go_ret
 exact ⟨_,rfl,hR'.out.1,hR'.out.2⟩
end
end Go.Proofs.YtffnihooekbcnaaGreat
namespace Go.Proofs.YtffnihooekbcnaaGreat
open Go.RowKit Go.Maps
attribute [local go_sem] cells_str store_str eql_str neq_str guard_str len_str
def idxPost (w:World) (s:List UInt8) (l:List (List UInt8)) (e:Ending) (w':World):Prop:=∃i:Int,e=.returned (.int .i64 i)∧(0≤i ↔ s∈l)∧Fr [] w w'
theorem IndexT_calls (v:Value) (s:List UInt8) (l:List (List UInt8)) (w:World) (hv:SlT w v l):Calls Tryz.prog 94 #[v,strL s] w (idxPost w s l):=by
 obtain ⟨a,cap,rfl,hlc,hcm,_⟩:=SlF.open hv
 unfold maxLen at hcm
 unfold idxPost
 go_enter Tryz.func94,Tryz.ntmps94
 go_wp2_with fail
 go_loopw [5,8] (fun _ i wr=>∃k:Nat,k≤l.length∧i=.int .i64 (k:Int)∧Fr [] w wr∧Hid (s ∉ l.take k)) (fun _ i _=>l.length - (intOf i).toNat)
 case atStart=>exact ⟨0,Nat.zero_le _,rfl,Fr.refl _ _,hidIt (by simp)⟩
 case round =>
  obtain ⟨k,hk,rfl,hF,hno⟩:=hrel
  by_cases hlt:k<l.length
  case neg =>
   have hke:k=l.length:=by omega
   subst hke
   have hno':Hid (¬s∈l):=hidIt (by have:=hno.out;rwa [List.take_length] at this)
   clear hno
   go_wp2
   go_ret
   exact ⟨-1,rfl,⟨fun h=>by omega,fun h=>absurd h hno'.out⟩,hF⟩
  obtain ⟨bn,on,rfl,hbn,dn⟩:=SlT.at (SlF.fr0 hv hF) hlt
  have htk:=hidIt (List.take_succ_eq_append_getElem hlt)
  have hmem:Hid (l.getD k []∈l):=hidIt (by rw [List.getD_eq_getElem?_getD,List.getElem?_eq_getElem hlt];exact List.getElem_mem hlt)
  have hge:Hid (l[k]=l.getD k []):=hidIt (by rw [List.getD_eq_getElem?_getD,List.getElem?_eq_getElem hlt];rfl)
  generalize l.getD k []=t at *
  by_cases hst:s=t
  ·subst hst
   clear hno htk hge
   go_wp2
   go_ret
   exact ⟨(k:Int),rfl,⟨fun _=>hmem.out,fun _=>by omega⟩,hF⟩
  ·have hst':decide (s=t)=false:=decide_eq_false hst
   have hno':Hid (s ∉ l.take (k+1)):=hidIt (by rw [htk.out,hge.out,List.mem_append];intro h;rcases h with h | h;exact hno.out h;exact hst (List.mem_singleton.1 h))
   clear hno htk hge hmem
   go_wp2
   go_roundw
   case rel=>exact ⟨k+1,by omega,by go_num,hF,hno'⟩
   case measure=>simp [intOf];omega
theorem ContainsT_calls (v:Value) (s:List UInt8) (l:List (List UInt8)) (w:World) (hv:SlT w v l):Calls Tryz.prog 52 #[v,strL s] w fun e w'=>e=.returned (.bool (decide (s∈l)))∧Fr [] w w':=by
 have kI:=IndexT_calls v s l w hv
 obtain ⟨a,cap,rfl,_⟩:=SlF.open hv
 by_cases hs:s∈l
 ·have hd:decide (s∈l)=true:=decide_eq_true hs
  rw [hd]
  go_enter Tryz.func52,Tryz.ntmps52
  go_wp2_with fail
  refine kI.mono ?_
  rintro e w2 ⟨i,rfl,hi,hf⟩
  have hi0:0≤i:=hi.2 hs
  clear kI hi hs hd
  go_wp2
  go_ret
  exact ⟨rfl,hf⟩
 ·have hd:decide (s∈l)=false:=decide_eq_false hs
  rw [hd]
  go_enter Tryz.func52,Tryz.ntmps52
  go_wp2_with fail
  refine kI.mono ?_
  rintro e w2 ⟨i,rfl,hi,hf⟩
  have hi0:decide (0≤i)=false:=decide_eq_false fun h=>hs (hi.1 h)
  clear kI hi hs hd
  go_wp2
  go_ret
  exact ⟨rfl,hf⟩
end Go.Proofs.YtffnihooekbcnaaGreat
namespace Go.Proofs.YtffnihooekbcnaaGreat
open Go.RowKit Go.Maps
attribute [local go_sem] mapAt_alloc mapAt_setCell mapAt_drew mapAt_drewN cells_str store_str eql_str neq_str guard_str len_str
def offD (L:List Dk) (s:By):List Dk:=nlMod Dk.nm L s fun d=>{ d with bk:=[] }
theorem fD_off (L:List Dk) (s t:By):fD (offD L s) t=(fD L t).map fun d=>if t=s then { d with bk:=[] } else d:=nlFind_mod (nm:=Dk.nm) (f:=fun d=>{ d with bk:=[] }) (fun _=>rfl) t
theorem path_off {L:List Dk} {s:By}:∀{p:List By} {t:By},IsPath L t p→∃q,IsPath (offD L s) t q∧q.length≤p.length
 | [],t,⟨d,h1,h2⟩=>⟨[],⟨if t=s then { d with bk:=[] } else d,by rw [fD_off,h1];rfl,by split <;> first | rfl | exact h2⟩,Nat.le_refl _⟩
 | b :: r,t,⟨⟨d,h1,h2,h3⟩,h4⟩=>by
   by_cases e:t=s
   ·exact ⟨[],⟨{ d with bk:=[] },by rw [fD_off,h1];simp [e],rfl⟩,Nat.zero_le _⟩
   ·obtain ⟨q,g1,g2⟩:=path_off h4
    exact ⟨b :: q,⟨⟨d,by rw [fD_off,h1];simp [e],h2,h3⟩,g1⟩,by simpa using g2⟩
theorem path_off_self {L:List Dk} {s:By} {d:Dk} (h:fD L s=some d):IsPath (offD L s) s []:=⟨{ d with bk:=[] },by rw [fD_off,h];simp,rfl⟩
def Cd.off (d:Cd):Cd:=⟨{ d.x with bk:=[] },d.db,d.ib,d.p⟩
def offK (L:List Cd) (s:By):List Cd:=nlMod Cd.nm L s Cd.off
theorem offK_x (L:List Cd) (s:By):(offK L s).map (·.x)=offD (L.map (·.x)) s:=by
 unfold offK offD nlMod
 rw [List.map_map,List.map_map]
 refine List.map_congr_left fun d _=>?_
 simp only [Function.comp]
 by_cases e:d.nm=s
 ·have e':d.x.nm=s:=e
  rw [if_pos e,if_pos e']
  rfl
 ·have e':¬d.x.nm=s:=e
  rw [if_neg e,if_neg e']
theorem mem_offK {L:List Cd} {s:By} {c:Cd} (hc:c∈offK L s):∃d∈L,c.nm=d.nm∧c.db=d.db∧c.ib=d.ib∧c.p=d.p∧c.x.M=d.x.M∧((d.nm=s∧c.x.bk=[])∨(d.nm≠s∧c=d)):=by
 obtain ⟨d,hd,rfl⟩:=mem_nlMod.1 hc
 refine ⟨d,hd,?_⟩
 by_cases e:d.nm=s
 ·rw [if_pos e];exact ⟨rfl,rfl,rfl,rfl,rfl,.inl ⟨e,rfl⟩⟩
 ·rw [if_neg e];exact ⟨rfl,rfl,rfl,rfl,rfl,.inr ⟨e,rfl⟩⟩
section
variable {w w':World} {cb mb room:Nat} {L:List Cd}
theorem ChG.off {s:By} {c:Cd} (h:ChG noEx w cb mb 1 room L) (hc:fK L s=some c) (hf:Fr [c.db] w w') (hB:Blk w' c.db [.pointer (some ⟨c.ib,0,none⟩),strL []] 121):ChG noEx w' cb mb 1 room (offK L s):=by
 obtain ⟨es,clock,hm,hi⟩:=h.map
 obtain ⟨hcm,hcs⟩:=h.find hc
 obtain ⟨a1,a2,a3,a4⟩:=h.hm c hcm
 have hne:=h.ne
 refine ⟨h.blk.fr hf (by simp;omega),⟨es,clock,mapAt_fr hm hf (by simp;exact fun e=>hne.2 c hcm e.symm),?_⟩,fun d hd=>?_,fun d hd _=>?_,nlMod_rising h.rising fun _=>rfl,fun d hd e he hde=>?_,fun d hd=>?_,fun d hd he k hk=>?_⟩
 ·unfold offK
  rw [←nlM_mod (nm:=Cd.nm) (ptr:=Cd.ptr) (f:=Cd.off) (fun _=>rfl) (fun _=>rfl)]
  exact hi
 ·obtain ⟨d',hd',h1,h2,h3,_,_,h5⟩:=mem_offK hd
  rw [h2,h3]
  rcases h5 with ⟨h6,h7⟩ | ⟨h6,h7⟩
  ·have:d'=c:=h.rising.inj hd' hcm (h6.trans hcs.symm)
   rw [h7,this];exact hB
  ·rw [h7]
   refine (h.dks d' hd').fr hf ?_
   simp
   exact (h.ap d' hd' c hcm (by rw [hcs];exact h6)).2
 ·obtain ⟨d',hd',h1,h2,h3,h4,h5,_⟩:=mem_offK hd
  rw [h3,h4,h5]
  exact (h.img d' hd' (fun h=>h)).fr hf fun k hk=>by rw [List.mem_singleton.1 hk];exact (h.hm d' hd').2.2.2 c hcm
 ·obtain ⟨d',hd',h1,h2,h3,h4,_⟩:=mem_offK hd
  obtain ⟨e',he',g1,g2,g3,g4,_⟩:=mem_offK he
  rw [h2,h4,g2,g4]
  exact h.ap d' hd' e' he' (by rw [←h1,←g1];exact hde)
 ·obtain ⟨d',hd',h1,h2,h3,h4,_⟩:=mem_offK hd
  obtain ⟨b1,b2,b3,b4⟩:=h.hm d' hd'
  rw [h2,h4]
  refine ⟨b1,b2,b3,fun e he=>?_⟩
  obtain ⟨e',he',g1,g2,_⟩:=mem_offK he
  rw [g2];exact b4 e' he'
 ·obtain ⟨d',hd',h1,h2,h3,h4,_⟩:=mem_offK hd
  rw [h4] at hk
  exact Nat.lt_of_lt_of_le (h.low d' hd' (fun h=>h) k hk) hf.size
theorem chBelow_none (s:By) (h:ChG noEx w cb mb 1 room L) (hs:s.length≤maxLen) (hc:fK L s=none):Calls Tryz.prog 72 #[.pointer (some ⟨cb,0,none⟩),strL s] w fun e w'=>e=.returned (.slice none 0 0)∧Fr [] w w':=by
 have hcm:=h.blk.cell 2
 have hl:=h.look hs w (Fr.refl _ _)
 rw [hc] at hl
 unfold kpt at hl
 clear h hc
 go_enter Tryz.func72,Tryz.ntmps72
 go_wp2_with fail
 go_step3
 go_wp2_with fail
 go_step3
 go_wp2_with fail
 go_loopw [5,6] (fun v d wr=>v=.slice none 0 0∧d=.pointer none∧Fr [] w wr) (fun _ _ _=>0)
 case atStart=>exact ⟨rfl,rfl,Fr.refl _ _⟩
 case round =>
  obtain ⟨rfl,rfl,hF⟩:=hrel
  go_wp2
  rw [Exit.noGoto_ret]
  go_ret
  exact ⟨rfl,hF⟩
def rebPost (w:World) (cb mb room:Nat) (L:List Cd) (s:By) (e:Ending) (w':World):Prop:=e=.returned (.int .i64 0)∧ChG noEx w' cb mb 1 room (offK L s)∧StepO w (chO cb mb L) w' (chO cb mb (offK L s))
theorem chRebase_calls (s:By) (c:Cd) (h:ChG noEx w cb mb 1 room L) (hc:fK L s=some c) (hn:∀c∈L,c.nm.length≤maxLen) (hne:∀c∈L,c.nm≠[]) (hf16:L.length≤16) (hp:∀d∈L,∃p,IsPath (L.map (·.x)) d.nm p∧p.length≤8) :
 Calls Tryz.prog 297 #[.pointer (some ⟨cb,0,none⟩),strL s,.string ⟨#[]⟩] w (rebPost w cb mb room L s):=by
 obtain ⟨hcm,hcs⟩:=h.find hc
 have hs0:s≠[]:=by rw [←hcs];exact hne c hcm
 have hsl:s.length≤maxLen:=by rw [←hcs];exact hn c hcm
 have hl:=h.look hsl w (Fr.refl _ _)
 rw [hc] at hl
 unfold kpt Cd.ptr at hl
 have c0:=h.blk.cell
 have hB:=h.dks c hcm
 have hnil:fK L []=none:=nlFind_none.2 fun d hd=>hne d hd
 have kK:=chKnown_calls [] h (Nat.zero_le _)
 have kB:=chBelow_none [] h (Nat.zero_le _) hnil
 have hq:binOp .eql 9 (strL s) (.string ⟨#[]⟩)=pure (.bool false):=by
  rw [show Value.string ⟨#[]⟩=strL [] from rfl,eql_str,decide_eq_false hs0]
 have hg:∀(op:BinOp) (x y:Operand) (w:World),(eqGuard op 9 x y (strL s) (.string ⟨#[]⟩)).run Tryz.prog w=.ok () w:=fun op x y w=>by rw [show Value.string ⟨#[]⟩=strL [] from rfl];exact guard_str _ _ _ _ _ _
 unfold rebPost
 go_enter Tryz.func297,Tryz.ntmps297
 go_wp2_with fail
 refine kK.mono ?_
 rintro e w1 ⟨rfl,hw1⟩
 rw [hw1]
 clear hw1
 go_wp2_with fail
 refine kB.mono ?_
 rintro e w2 ⟨rfl,hf2⟩
 go_wp2_with fail
 refine (ContainsT_calls _ s [] w2 (Sl.nil _)).mono ?_
 rintro e w3 ⟨rfl,hf3⟩
 have hF3:=hf2.trans0 hf3
 have h3:=h.fr0 hF3
 have hB3:=hB.fr0 hF3
 have d1:=hB3.cell
 have df:=hB3.frozen
 have dl:=hB3.lt
 have hset:Fr [c.db] w3 (w3.setCell ⟨c.db,1,none⟩ (.string ⟨#[]⟩)):=(Fr.refl [c.db] w3).setCell (p:=⟨c.db,1,none⟩) (.inl (by simp)) _
 have h4:ChG noEx (w3.setCell ⟨c.db,1,none⟩ (.string ⟨#[]⟩)) cb mb 1 room (offK L s):=h3.off hc hset (hB3.setCell 1 (.string ⟨#[]⟩))
 have hstep:StepO w (chO cb mb L) (w3.setCell ⟨c.db,1,none⟩ (.string ⟨#[]⟩)) (chO cb mb (offK L s)):=by
  refine ⟨⟨[c.db],hF3.weak.trans' hset,fun k hk _=>.inr (.inr ⟨c,hcm,.inl (List.mem_singleton.1 hk)⟩)⟩,fun k hk=>.inl ?_⟩
  rcases hk with hk | hk | ⟨d,hd,hk⟩
  ·exact .inl hk
  ·exact .inr (.inl hk)
  ·obtain ⟨d',hd',_,g2,_,g4,_⟩:=mem_offK hd
   rw [g2,g4] at hk
   exact .inr (.inr ⟨d',hd',hk⟩)
 have hn4:∀d∈offK L s,d.nm.length≤maxLen:=fun d hd=>by obtain ⟨d',hd',g1,_⟩:=mem_offK hd;rw [g1];exact hn d' hd'
 have hlen4:(offK L s).length=L.length:=nlMod_len _ _ _
 have hp4:∀d∈offK L s,∃p,IsPath ((offK L s).map (·.x)) d.nm p∧p.length≤8:=fun d hd=>by
  obtain ⟨d',hd',g1,_⟩:=mem_offK hd
  obtain ⟨p,hp1,hp2⟩:=hp d' hd'
  obtain ⟨q,hq1,hq2⟩:=path_off (s:=s) hp1
  exact ⟨q,by rw [offK_x,g1];exact hq1,by omega⟩
 have kN:=chNames_calls h4 (by omega)
 have kBl:=fun X (hX:Fr [] (w3.setCell ⟨c.db,1,none⟩ (.string ⟨#[]⟩)) X) (d:Cd) (hd:d∈offK L s) p hp=>chBelow_calls d.nm p (h4.fr0 hX) hp hn4
 generalize hO:offK L s=O at *
 clear h hB h3 hB3 kK kB hf2 hf3 hF3 hp hset hl c0
 go_wp2_with fail
 generalize w3.setCell ⟨c.db,1,none⟩ (.string ⟨#[]⟩)=w4 at *
 refine kN.mono ?_
 rintro e w5 ⟨v,rfl,hv,hf5,_⟩
 obtain ⟨a,cap,rfl,hvl,_⟩:=SlF.open hv
 rw [List.length_map] at hv hvl ⊢
 go_wp2_with fail
 go_loopw [10,48] (fun _ i wr=>∃k:Nat,k≤O.length∧i=.int .i64 (k:Int)∧Fr [] w5 wr) (fun _ i _=>O.length - (intOf i).toNat)
 case atStart=>exact ⟨0,Nat.zero_le _,rfl,Fr.refl _ _⟩
 case round =>
  obtain ⟨k,hk,rfl,hF⟩:=hrel
  have hFw:=hf5.trans0 hF
  by_cases hlt:k<O.length
  case neg =>
   have hke:k=O.length:=by omega
   subst hke
   clear kBl kN d1 df dl
   go_wp2
   go_ret
   rw [hO]
   exact ⟨rfl,h4.fr0 hFw,hstep.trans (StepO.fr0 hFw)⟩
  obtain ⟨bn,on,rfl,hbn,dn⟩:=SlT.at (SlF.fr0 hv hF) (i:=k) (by rw [List.length_map];exact hlt)
  have hmem:O[k]∈O:=List.getElem_mem hlt
  have hnk:(O.map Cd.nm).getD k []=O[k].nm:=by rw [List.getD_eq_getElem?_getD,List.getElem?_map,List.getElem?_eq_getElem hlt];rfl
  rw [hnk] at dn
  obtain ⟨q,hq1,hq2⟩:=hp4 _ hmem
  have kq:=kBl wr hFw _ hmem q hq1 (by omega)
  generalize O[k].nm=t at *
  clear kBl kN d1 df dl
  go_wp2_with fail
  refine kq.mono ?_
  rintro e w6 ⟨u,rfl,ho,hf6⟩
  obtain ⟨au,cu,rfl,_⟩:=Sl.of_owns ho
  have hq8:¬(8:Int)<(q.length:Int):=by omega
  clear kq ho dn
  go_wp2
  go_roundw
  case rel=>exact ⟨k+1,by omega,by go_num,hF.trans0 hf6⟩
  case measure=>simp [intOf];omega
end
def nxt:List By→By
 | []=>[]
 | b :: _=>b
theorem nxt_nil:nxt []=[]:=rfl
theorem nxt_cons (b:By) (r:List By):nxt (b :: r)=b:=rfl
theorem nxt_head (r:List By):r.headD []=nxt r:=by cases r <;> rfl
section
variable {w w':World} {cb mb room:Nat} {L:List Cd}
def betwPost (w:World) (p:List By) (e:Ending) (w':World):Prop:=∃v,e=.returned (.tuple #[v,.bool true])∧SlT w' v p∧Fr [] w w'
theorem pBetween_calls (s:By) (p:List By) (h:ChG noEx w cb mb 1 room L) (hp:IsPath (L.map (·.x)) s p) (hn:∀c∈L,c.nm.length≤maxLen) (hp8:p.length≤64) :
 Calls Tryz.prog 93 #[.pointer (some ⟨cb,0,none⟩),strL s,.string ⟨#[]⟩] w (betwPost w p):=by
 have he:Value.string ⟨#[]⟩=strL []:=rfl
 have hlen:∀t c,fK L t=some c→t.length≤maxLen:=fun t c hc=>by
  obtain ⟨h1,h2⟩:=nlFind_mem hc
  rw [←h2]
  exact hn c h1
 have hbk:∀(t:By) (q:List By),IsPath (L.map (·.x)) t q→∀X,Fr [] w X→Calls Tryz.prog 90 #[.pointer (some ⟨cb,0,none⟩),strL t] X fun e w'=>e=.returned (.tuple #[strL (nxt q),.int .i64 0])∧w'=X:=fun t q hq X hX=>by
  obtain ⟨d,hd,hdb⟩:=hq.find
  obtain ⟨c,hc,hcx⟩:=fK_of hd
  have:=chBacking_calls t (h.fr0 hX) (hlen t c hc)
  rw [hc] at this
  rw [←nxt_head,←hdb,←hcx]
  exact this
 have k0:=hbk s p hp w (Fr.refl _ _)
 clear h hn hlen
 unfold betwPost
 rw [he]
 go_enter Tryz.func93,Tryz.ntmps93
 rw [he]
 go_wp2_with fail
 go_step3
 go_wp2_with fail
 refine k0.mono ?_
 rintro e w1 ⟨rfl,hw1⟩
 rw [hw1]
 clear hw1 w1 k0
 go_wp2_with fail
 go_step3
 go_wp2_with fail
 go_loopw [8,9,10] (fun v t c wr=>∃q r:List By,p=q++r∧t=strL (nxt r)∧c=.int .i64 0∧(∀b r',r=b :: r'→IsPath (L.map (·.x)) b r'∧b≠[])∧wr.ownsRow w.heap.size 9 1 v q.length (q.flatMap strC)∧Fr [] w wr) (fun v _ _ _=>p.length - slLen v)
 case atStart =>
  refine ⟨[],p,rfl,rfl,rfl,fun b r' hr=>?_,World.ownsRow_nil _ _ _ _,Fr.refl _ _⟩
  subst hr
  exact ⟨hp.2,hp.nonil b List.mem_cons_self⟩
 case round =>
  obtain ⟨q,r,rfl,rfl,rfl,hr,ho,hF⟩:=hrel
  obtain ⟨av,cv,rfl,_⟩:=Sl.of_owns ho
  cases r with
  | nil =>
    clear hr hbk
    rw [nxt_nil]
    go_wp2
    rw [Exit.noGoto_ret]
    go_ret2
    refine ⟨_,rfl,?_,hF⟩
    rw [List.append_nil]
    exact SlF.of_owns ho
  | cons b r =>
    obtain ⟨hpr,hb0⟩:=hr b r rfl
    have kb:=fun X hX=>hbk b r hpr X hX
    have hz:=hF.size
    have hb':decide (b=[])=false:=decide_eq_false hb0
    rw [nxt_cons]
    obtain ⟨S,hS⟩:∃S,Hid (Value.string S=strL b):=⟨_,hidIt rfl⟩
    rw [←hS.out] at kb ⊢
    have hq1:binOp .eql 9 (.string S) (strL [])=pure (.bool false):=by rw [hS.out,eql_str,hb']
    have hq2:binOp .neq 9 (.string S) (strL [])=pure (.bool true):=by rw [hS.out,neq_str,hb'];rfl
    have hg:∀(op:BinOp) (x y:Operand) (w:World),(eqGuard op 9 x y (.string S) (strL [])).run Tryz.prog w=.ok () w:=fun op x y w=>by rw [hS.out];exact guard_str _ _ _ _ _ _
    have hone:∀u∈[Value.string S],u.oneCell'=true:=fun u hu=>by rw [List.mem_singleton.1 hu];rfl
    have hql:q.length+(r.length+1)≤64:=by simpa using hp8
    clear hbk hp
    go_wp2_with (at_builtin;refine Hid.out ?_)
    refine hidIt ?_
    refine wpList_append1 27 9 _ 1 16 Tryz.underlying27 infoTxK rfl (by decide) (by decide) rfl _ _ rfl w.heap.size _ _ _ rfl (ho.alloc _) [.string S] rfl hone wr.heap.size rfl (Blk.new' rfl [.string S] _) (by omega) (by simp;omega) ?_
    intro v' w2 hown2 hgrow hloc
    have hF2:Fr [] w w2:=(hF.alloc _).grown hgrow (fun y hy=>.inr (own_base ho y hy))
    have hfl:(q++[b]).flatMap strC=q.flatMap strC++[Value.string S]:=by rw [List.flatMap_append,hS.out];rfl
    rw [←hfl] at hown2
    obtain ⟨a2,q2,rfl,_⟩:=Sl.of_owns hown2
    have kb2:=kb w2 hF2
    clear hq1 hq2 hg hone hgrow hloc ho kb
    go_wp2_with fail
    refine kb2.mono ?_
    rintro e w3 ⟨rfl,hw3⟩
    rw [hw3]
    clear hw3 w3 kb2
    go_wp2
    go_roundw
    case rel=>exact ⟨q++[b],r,by simp,rfl,rfl,fun b' r' hr'=>by subst hr';exact ⟨hpr.2,hpr.nonil b' List.mem_cons_self⟩,by rw [List.length_append];exact hown2,hF2⟩
    case measure=>simp [slLen];omega
def pullC (cb:Nat) (s:By) (over:Bool):List Value:=[.pointer (some ⟨cb,0,none⟩),strL s,strL [],.bool over]
def pBeginPost (w:World) (cb:Nat) (s:By) (p:List By) (e:Ending) (w':World):Prop :=
 (p=[]∧e=.returned (.tuple #[.pointer none,.int .i64 1])∧Fr [] w w')∨(p≠[]∧∃jb,e=.returned (.tuple #[.pointer (some ⟨jb,0,none⟩),.int .i64 0])∧Blk w' jb (pullC cb s false) 153∧w.heap.size≤jb∧Fr [] w w')
theorem pBegin_calls (s:By) (p:List By) (h:ChG noEx w cb mb 1 room L) (hp:IsPath (L.map (·.x)) s p) (hn:∀c∈L,c.nm.length≤maxLen) (hp8:p.length≤64) :
 Calls Tryz.prog 50 #[.pointer (some ⟨cb,0,none⟩),strL s,.string ⟨#[]⟩] w (pBeginPost w cb s p):=by
 obtain ⟨d,hd,_⟩:=hp.find
 obtain ⟨c,hc,_⟩:=fK_of hd
 have hsl:s.length≤maxLen:=by rw [←(nlFind_mem hc).2];exact hn c (nlFind_mem hc).1
 have kI:=chImage_calls s h hsl
 rw [hc] at kI
 have kB:=pBetween_calls s p h hp hn hp8
 unfold betwPost at kB
 clear h hp hn hd hc
 obtain ⟨S,hS⟩:∃S,Hid (strL s=Value.string S):=⟨_,hidIt rfl⟩
 rw [hS.out] at kI kB ⊢
 go_enter Tryz.func50,Tryz.ntmps50
 go_wp2_with fail
 refine kI.mono ?_
 rintro e w1 ⟨rfl,hw1⟩
 rw [hw1]
 clear hw1 w1 kI
 go_wp2_with fail
 refine kB.mono ?_
 rintro e w2 ⟨v,rfl,hv,hf2⟩
 obtain ⟨a,cap,rfl,_⟩:=SlF.open hv
 clear kB
 cases p with
 | nil =>
   go_wp2
   go_ret2
   exact Or.inl ⟨rfl,rfl,hf2⟩
 | cons b r =>
   have hl:((r.length:Int)+1 == 0)=false:=by
    have:(r.length:Int)+1≠0:=by omega
    simpa using this
   have hz:=hf2.size
   go_wp2
   go_ret2
   exact Or.inr ⟨by simp,_,rfl,by unfold pullC;rw [hS.out];exact Blk.new w2 _ _,hz,hf2.alloc _⟩
end
end Go.Proofs.YtffnihooekbcnaaGreat
