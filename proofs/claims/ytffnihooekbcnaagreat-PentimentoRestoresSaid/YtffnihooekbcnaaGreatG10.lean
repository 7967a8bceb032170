/-
  Package image: Write.
-/
import Derived.Test.YtffnihooekbcnaaGreatG09
import Derived.Test.YtffnihooekbcnaaGreatMarks
set_option maxRecDepth 100000
set_option maxHeartbeats 6400000
namespace Go.Proofs.YtffnihooekbcnaaGreat
open Go.RowKit Go.Maps
attribute [local go_sem] Oper.semAt_some
attribute [local go_sem] mapAt_alloc mapAt_setCell mapAt_drew mapAt_drewN
def belF (bel:List By):Img→Nat→By:=fun R c=>cluB R c bel
theorem belF_len (bel:List By):∀(R:Img) c,OkJ R→(belF bel R c).length=R.z:=fun _ c h=>cluB_len h c bel
def writeE (M:Img) (x:Int) (b:By) (bel:List By):Int × Img :=
 if b.length % 16≠0 then (1,M) else if insideI M x (b.length / 16:Nat)≠0 then (insideI M x (b.length / 16:Nat),M)
 else if freeN M.n<needN false M x.toNat (b.length / 16) (pcN M.z x.toNat (b.length / 16)) then (120,M) else (0,writeI false M x.toNat (b.length / 16) b (belF bel))
def resPost (w:World) (ib:Nat) (p:Pl) (r:Int × Img) (e:Ending) (w':World):Prop:=∃p',e=.returned (.int .i64 r.1)∧ImgW w' ib p' r.2∧Step w p w' p'
theorem slY_fr {w w':World} {v:Value} {b:By} {L:List Nat} (h:SlY w v b) (hf:Fr L w w') (hL:0<b.length→∀k,v.ownBlock=some k→k ∉ L):SlY w' v b:=by
 cases b with
 | nil =>
   obtain ⟨a,cap,rfl,h1,h2,_⟩:=h
   exact ⟨a,cap,rfl,h1,h2,.inl rfl⟩
 | cons x l=>exact SlF.fr h hf (hL (by simp))
theorem slY_fr0 {w w':World} {v:Value} {b:By} (h:SlY w v b) (hf:Fr [] w w'):SlY w' v b:=slY_fr h hf fun _ _ _ h=>by cases h
theorem needN_le (zero:Bool) (M:Img) (a l k:Nat):needN zero M a l k≤k:=by
 have:=List.countP_le_length (p:=fun j=>needK zero M (pcC M.z a j) (pcFr M.z a j) (pcTo M.z a l j)) (l:=List.range k)
 unfold needN
 simpa using this
theorem pcN_le {z a l:Nat}:pcN z a l≤16*(a+l)+z:=by
 unfold pcN
 split
 ·omega
 ·exact Nat.le_trans (Nat.sub_le _ _) (Nat.le_trans (Nat.div_le_self (16*(a+l)+z - 1) z) (Nat.sub_le _ _))
theorem needN_next (M:Img) (a l k:Nat):needN false M a l (k+1)=needN false M a l k+(if needB (M.t.getD (pcC M.z a k) zS)=true then 1 else 0):=needN_succ false M a l k
section
variable {ib:Nat} {p:Pl} {M:Img}
theorem iWrite_calls (x:Int) (vb:Value) (b:By) (fv:Value) (bel:List By) (w:World) (h:ImgW w ib p M) (hok:OkI M) (hvb:SlY w vb b) (hvr:0<b.length→far p vb) (hbel:BelW ib M p w fv bel) :
 Calls Tryz.prog 81 #[.pointer (some ⟨ib,0,none⟩),.int .i64 x,vb,fv] w (resPost w ib p (writeE M x b bel)):=by
 have hfv:fv=.nilFunc∨∃F A C,fv=.func F A C:=by rcases hbel with ⟨_,rfl⟩ | ⟨_,_,_,rfl,_⟩;exact .inl rfl;exact .inr ⟨_,_,_,rfl⟩
 rcases hfv with rfl | ⟨F,A,C,rfl⟩
 case' inl=>obtain ⟨fv,hfv⟩:∃fv,fv=Value.nilFunc:=⟨_,rfl⟩;rw [←hfv] at hbel
 case' inr=>obtain ⟨fv,hfv⟩:∃fv,fv=Value.func F A C:=⟨_,rfl⟩;rw [←hfv] at hbel
 all_goals
  obtain ⟨W0,hW0⟩:∃W0,((w.alloc (.cells #[.pointer (some ⟨ib,0,none⟩)] 112)).alloc (.cells #[vb] 31)).alloc (.cells #[fv] 132)=W0:=⟨_,rfl⟩
  have hF0:Fr [] w W0:=by rw [←hW0];exact (((Fr.refl [] w).alloc _).alloc _).alloc _
  have B0:Blk W0 w.heap.size [.pointer (some ⟨ib,0,none⟩)] 112:=by rw [←hW0];exact ((Blk.new w _ _).alloc _).alloc _
  have B1:Blk W0 (w.heap.size+1) [vb] 31:=by rw [←hW0];exact (Blk.new' (by simp) _ _).alloc _
  have B2:Blk W0 (w.heap.size+2) [fv] 132:=by rw [←hW0];exact Blk.new' (by simp) _ _
  have h0:=h.fr0 hF0
  have c0:=B0.cell
  have c1:=B1.cell
  have c2:=B2.cell
  have hlm:b.length≤maxLen:=SlF.le hvb
  obtain ⟨va,vc,rfl,hvl,hvm,_⟩:=SlF.open hvb
  rw [hfv] at c2 hW0
  unfold resPost
  obtain ⟨r,hr⟩:∃r,Hid (r=writeE M x b bel):=⟨_,hidIt rfl⟩
  rw [←hr.out]
  obtain ⟨L,hL⟩:∃L,Hid (L=b.length):=⟨_,hidIt rfl⟩
  obtain ⟨l,hl⟩:∃l,Hid (l=b.length / 16):=⟨_,hidIt rfl⟩
  obtain ⟨m,hm⟩:∃m,Hid (m=b.length % 16):=⟨_,hidIt rfl⟩
  have hLl:=hidIt (show L=16*l+m∧m<16 by have:=hL.out;have:=hl.out;have:=hm.out;omega)
  rw [←hL.out] at hW0 hvl hlm c1 hvb hvr B1
  rw [←hL.out]
  have hrem:(L:Int) % 16=(m:Int):=by have:=hLl.out;omega
  have hquo:(L:Int) / 16=(l:Int):=by have:=hLl.out;omega
  have hqw:IntKind.i64.wrap (l:Int)=(l:Int):=IntWalk.i64_in _ (by have:=hLl.out;unfold maxLen at hlm;omega)
  by_cases hr1:m=0
  case neg =>
   have hr2:((m:Int) != 0)=true:=by simp;omega
   have hE:r=(1,M):=by rw [hr.out];unfold writeE;rw [if_pos (by have:=hm.out;omega)]
   rw [hE]
   clear hL hl hm hLl hr
   refine calls_marks Tryz.func81 rfl ?_
   simp only [Tryz.ntmps81,List.size_toArray,List.length_cons,List.length_nil,Nat.reduceAdd,Nat.reduceSub,Array.replicate_succ,Array.replicate_zero,List.push_toArray,List.append_toArray,List.nil_append,List.cons_append]
   go_wp2_with fail
   exact leave_plain rfl (results_tmp rfl _ _ _) ⟨_,rfl,h0,Step.fr0 hF0⟩
  have hr2:((m:Int) != 0)=false:=by rw [hr1];rfl
  have kI:=iInside_calls x l W0 h0 hok.B
  by_cases hE:insideI M x l=0
  case neg =>
   have hE2:r=(insideI M x l,M):=by rw [hr.out];unfold writeE;rw [if_neg (by have:=hm.out;omega),←hl.out,if_pos hE]
   rw [hE2]
   generalize insideI M x l=E at *
   clear hL hl hm hLl hr
   refine calls_marks Tryz.func81 rfl ?_
   simp only [Tryz.ntmps81,List.size_toArray,List.length_cons,List.length_nil,Nat.reduceAdd,Nat.reduceSub,Array.replicate_succ,Array.replicate_zero,List.push_toArray,List.append_toArray,List.nil_append,List.cons_append]
   go_wp2_with fail
   refine kI.mono ?_
   rintro e w1 ⟨rfl,hf1⟩
   go_wp2
   exact leave_plain rfl (results_tmp rfl _ _ _) ⟨_,rfl,h0.fr0 hf1,Step.fr0 (hF0.trans0 hf1)⟩
  obtain ⟨a,n,rfl,hln,hal⟩:=inside_ok hE
  obtain rfl:l=n:=by omega
  have hL16:=hidIt (show L=16*l by have:=hLl.out;omega)
  have hal2:=all_le hok.toOkJ
  have hz128:=z_le hok.toOkJ
  have hB:=hok.B
  have hbl:=hidIt (hL.out.symm.trans hL16.out)
  have hr':Hid (r=if freeN M.n<needN false M a l (pcN M.z a l) then (120,M) else (0,writeI false M a l b (belF bel))):=hidIt (by
   rw [hr.out];unfold writeE;rw [if_neg (by have:=hm.out;omega),←hl.out,if_neg (by simpa using hE),Int.toNat_natCast])
  rw [hE] at kI
  clear hL hl hm hLl hr
  refine calls_marks Tryz.func81 rfl ?_
  simp only [Tryz.ntmps81,List.size_toArray,List.length_cons,List.length_nil,Nat.reduceAdd,Nat.reduceSub,Array.replicate_succ,Array.replicate_zero,List.push_toArray,List.append_toArray,List.nil_append,List.cons_append]
  go_wp2_with fail
  refine kI.mono ?_
  rintro e w1 ⟨rfl,hf1⟩
  have hFa:=hf1.alloc (.cells #[.int .i64 0] 3)
  have Bn:=Blk.new w1 [.int .i64 0] 3
  have h1:=h0.fr0 hf1
  have hbn:p.r w1.heap.size=none:=h1.new (Nat.le_refl _)
  have B0a:=B0.fr0 hFa
  have c0a:=B0a.cell
  have B1a:=B1.fr0 hFa
  have B2a:=B2.fr0 hFa
  have hz1:=hf1.size
  have hz0:=B2.lt
  have hFa0:=hF0.trans0 hFa
  clear c0 c1 c2 kI hf1 B0 B1 B2
  go_wp2_with fail
  refine (iPieces_calls (ib:=ib) a l _).mono ?_
  rintro e w3 ⟨b1,b2,b3,rfl,hb1,hb2,hb3,hf3,g1,g2,g3⟩
  have h3:=h.fr0 (hFa0.trans0 hf3)
  have hseq:=pieces_seq b1 b2 b3 a l w3 h3 hok.B (by omega) hb1 hb2 hb3
  have Bn3:=Bn.fr0 hf3
  have B03:=B0a.fr0 hf3
  have B13:=B1a.fr0 hf3
  have B23:=B2a.fr0 hf3
  have hF3:=hFa0.trans0 hf3
  have hln3:=Bn3.lt
  simp only [World.size_alloc] at g3
  clear hb1 hb2 hf3 Bn B0a c0a B1a B2a hFa hFa0 g1 g2
  go_wp2_with fail
  have hN:=pcN_le (z:=M.z) (a:=a) (l:=l)
  have nb0:∀{y},y<w.heap.size+3→y ∉ [w1.heap.size]:=fun hy hm=>by have:=List.mem_singleton.1 hm;omega
  refine wp_rangeFunc_seq rfl (enters_of Tryz.func174 (by kernel_rfl) rfl) hseq (Fr.refl _ _) (fun k f A=>f=[w1.heap.size]∧Blk A w1.heap.size [.int .i64 (needN false M a l k:Nat)] 3∧Fr [w1.heap.size] w3 A) (fun _ _ _=>False) [w1.heap.size] ?st (fun _ _ _ _ _ h _ _=>h) (by simp) (by simp;omega) ⟨rfl,Bn3,Fr.refl _ _⟩ ?round ?done (fun _ _ _ _ _ _ h _=>h.elim)
  case st =>
   rintro k f A B M' ⟨rfl,hb,hf⟩ hF hM
   exact ⟨rfl,stab_blk hb hF hM hln3 (by simp),hf.trans hF (fun y hy hl=>by rcases hM y hy with h1 | h1;cases h1;omega)⟩
  case round =>
   rintro lp k f A args q1 q2 q3 q4 hk ⟨rfl,hb,hf⟩ rfl
   refine ⟨rfl,?_⟩
   have Hn:=hidIt (needN_next M a l k)
   have hle:=needN_le false M a l k
   have kN:=fun W (hW:ImgW W ib p M)=>iNeeds_calls (pcC M.z a k) (pcFr M.z a k) (pcTo M.z a l k) (pcAt M.z a k) W hW
   have hk':k<65536:=by omega
   simp only [tget_nat] at kN
   unfold pieceV
   clear hseq hr' hbl
   obtain ⟨E1,hE1⟩:∃E,Hid (needN false M a l (k+1)=E):=⟨_,hidIt rfl⟩
   rw [hE1.out] at Hn
   generalize needN false M a l k=E0 at *
   generalize needB (M.t.getD (pcC M.z a k) zS)=nb at *
   generalize pcAt M.z a k=A0 at *
   generalize pcFr M.z a k=F0 at *
   generalize pcTo M.z a l k=T0 at *
   generalize pcC M.z a k=c0 at *
   have hfp:=(Fr.refl [] A).alloc (.cells #[.int .i64 (c0:Int),.int .i64 (F0:Int),.int .i64 (T0:Int),.int .i64 (A0:Int)] 201)
   gi_wp2
   have Bp:=Blk.new A [.int .i64 (c0:Int),.int .i64 (F0:Int),.int .i64 (T0:Int),.int .i64 (A0:Int)] 201
   have hlA:=hb.lt
   have hq4:=hfp.size
   refine ⟨⟨trivial,hb.fr0 hfp,hf.trans0 hfp⟩,hfp,?_⟩
   clear hb hf
   rintro A2 ⟨_,hb,hf⟩ hF2 hsz2
   have Bp2:=Bp.fr hF2 (by simp;omega)
   have b0:=B03.fr hf (nb0 (by omega))
   have hi:=h3.fr hf (fun y hy=>by rw [List.mem_singleton.1 hy];exact hbn)
   have c0':=b0.cell
   have cp:=Bp2.cell
   gi_wp2_with fail
   refine ⟨trivial,rfl,(CallsIn.inRound lp (callsIn_wide.2 (kN A2 hi))).mono ?_⟩
   rintro e A3 ⟨rfl,hf3⟩
   have hb3':=hb.fr0 hf3
   have hf3':=hf.trans0 hf3
   have c5:=hb3'.cell
   have f5:=hb3'.frozen
   have l5:=hb3'.lt
   clear hb c0' cp b0 hi kN
   cases nb with
   | false =>
     rw [if_neg (by decide),Nat.add_zero] at Hn
     gi_wp2
     exact ⟨_,⟨rfl,by rw [hE1.out,Hn.out];exact hb3',hf3'⟩,hf3.weak,fun y hy=>by have:=List.mem_singleton.1 hy;subst this;exact ⟨l5,.inl List.mem_cons_self⟩⟩
   | true =>
     rw [if_pos rfl] at Hn
     have hE32:E0≤65536:=by omega
     gi_wp2
     have e1:((E1:Nat):Int)=(E0:Int)+1:=by rw [Hn.out];rfl
     exact ⟨_,⟨rfl,by rw [hE1.out,e1];exact hb3'.setCell 0 _,hf3'.setCell (.inl (by simp)) _⟩,(hf3.weak).setCell (.inl (by simp)) _,fun y hy=>by have:=List.mem_singleton.1 hy;subst this;exact ⟨by simpa using l5,.inl List.mem_cons_self⟩⟩
  case done =>
   rintro D f W d1 d2 ⟨rfl,hb,hf⟩ hK
   have hDl:D<W.heap.size:=(Array.getElem?_eq_some_iff.1 hK).1
   have hi:=h3.fr hf (fun y hy=>by rw [List.mem_singleton.1 hy];exact hbn)
   have b0:=B03.fr hf (nb0 (by omega))
   have b1':=B13.fr hf (nb0 (by omega))
   have b2':=B23.fr hf (nb0 (by omega))
   have hFW:=hF3.trans hf (fun y hy hl=>by have:=List.mem_singleton.1 hy;omega)
   have hd:Fr [] W W.drew:=(Fr.refl _ _).drew
   have hbd:=hb.fr0 hd
   have b0d:=b0.fr0 hd
   have b1d:=b1'.fr0 hd
   have b2d:=b2'.fr0 hd
   have hid:=hi.fr0 hd
   have hFd:=hFW.trans0 hd
   have kF:=iFree_calls W.drew hid
   have hKd:W.drew.heap[D]? = some (.deferred (some [])):=(hd.block D hDl (by simp)).trans hK
   have hne:=needN_le false M a l (pcN M.z a l)
   have HNE:=hidIt (rfl:needN false M a l (pcN M.z a l)=needN false M a l (pcN M.z a l))
   obtain ⟨ne,hneq⟩:∃ne,Hid (needN false M a l (pcN M.z a l)=ne):=⟨_,hidIt rfl⟩
   rw [hneq.out] at hr' hbd
   clear hseq hb b0 b1' b2' hi hf HNE hne
   go_wp2_with fail
   refine wp_region_G (Fr [] W.drew) [(true,0),(true,1),(false,2),(true,3)] (by as_aux_lemma=>kernel_rfl) (by as_aux_lemma=>kernel_rfl) (Fr.refl _ _) ?_
   simp only [inOrder,jD,jE,jF,jG]
   refine wpG_val (.int .i64 (ne:Int)) (by first | rfl | go_simp) (fun X hX=>by have cc:=(hbd.fr0 hX).cell;go_simp) ?_
   simp only [Act.put,jA,jB,jC]
   refine wpG_val (.pointer (some ⟨ib,0,none⟩)) (by first | rfl | go_simp) (fun X hX=>by have cc:=(b0d.fr0 hX).cell;go_simp) ?_
   simp only [Act.put,jA,jB,jC]
   refine wpG_one fun K hK=>?_
   go_simp
   refine (kF).mono ?_
   rintro e w4 ⟨rfl,rfl⟩
   refine hK _ _ (Fr.refl _ _) ?_
   clear hK K
   iterate 1 (refine wpG_pure fun K hK=>?_;go_simp;refine hK _ ?_;clear hK K)
   refine wpG_end ?_
   have cbd:=hbd.cell
   have c0d:=b0d.cell
   have c1d:=b1d.cell
   have c2d:=b2d.cell
   by_cases hroom:freeN M.n<ne
   ·rw [if_pos hroom] at hr'
    have er:=hr'.out
    subst er
    clear hr' hneq
    generalize freeN M.n=fr at *
    go_wp2
    refine leave_mark rfl hKd (fun W' _=>results_tmp rfl _ _ _) fun W' hF=>⟨rfl,p,hid.fr hF (fun y hy=>?_),(Step.fr0 hFd).box hF (fun y hy=>by have:=List.mem_singleton.1 hy;have:=hF3.size;omega)⟩
    rw [List.mem_singleton.1 hy]
    exact h.new (by have:=hF3.size;omega)
   ·rw [if_neg hroom] at hr'
    have er:=hr'.out
    subst er
    have hneed:needN false M a l (pcN M.z a l)≤freeN M.n:=by rw [hneq.out];omega
    have hWI:∀k,k≤pcN M.z a l→WrI false M a l k (wrN false M a l b (belF bel) k):=fun k hk=>wrN_inv hok hal hbl.out (belF_len bel) hneed k hk
    have hWR:∀k,k<pcN M.z a l→Hid (needK false (wrN false M a l b (belF bel) k) (pcC M.z a k) (pcFr M.z a k) (pcTo M.z a l k)=true→0<freeN (wrN false M a l b (belF bel) k).n):=fun k hk=>hidIt ((hWI k (by omega)).room hneed hk)
    clear hr' hneq hneed kF
    generalize freeN M.n=fr at *
    go_wp2_with fail
    refine (iPieces_calls (ib:=ib) a l _).mono ?_
    rintro e w5 ⟨b4,b5,b6,rfl,hb4,hb5,hb6,hf5,g4,g5,g6⟩
    have h5:=hid.fr0 hf5
    have hseq2:=pieces_seq b4 b5 b6 a l w5 h5 hok.B (by omega) hb4 hb5 hb6
    have b05:=b0d.fr0 hf5
    have b15:=b1d.fr0 hf5
    have b25:=b2d.fr0 hf5
    have hF5:=hFd.trans0 hf5
    have hst5:Step w p w5 p:=Step.fr0 hF5
    have hbel5:=hbel.step hst5
    have hvb5:=slY_fr0 hvb hF5
    have hK5:=(hf5.block D (by have:=hd.size;omega) (by simp)).trans hKd
    have hrb0:p.r w.heap.size=none:=h.new (Nat.le_refl _)
    have hrb1:p.r (w.heap.size+1)=none:=h.new (by omega)
    have hrb2:p.r (w.heap.size+2)=none:=h.new (by omega)
    have hrD:p.r D=none:=h.new (by have:=hF3.size;omega)
    have hr6:p.r b6=none:=hid.new g6
    have hl6:=hb6.lt
    have hD5:D<w5.heap.size:=(Array.getElem?_eq_some_iff.1 hK5).1
    have hDw:w.heap.size≤D:=by have:=hF3.size;omega
    have hz5:w.heap.size≤w5.heap.size:=hF5.size
    clear cbd c0d c1d c2d hbd b0d b1d b2d hid hFd hKd hb4 hb5 hb6 hf5 g4 g5 g6 h3 Bn3 B03 B13 B23 hK hFW hd h0 h1 hF0 hW0
    go_wp2_with fail
    refine wp_rangeFunc_seq rfl (enters_of Tryz.func174 (by kernel_rfl) rfl) hseq2 (Fr.refl _ _) (fun k f A=>∃p',(∀y,y∈f ↔ (p'.r y).isSome=true)∧ImgW A ib p' (wrN false M a l b (belF bel) k)∧Step w5 p A p') (fun _ _ _=>False) (own p w5) ?st2 (fun _ _ _ _ _ h _ _=>h) (by simp) ?fp2 ⟨p,fun y=>⟨fun hy=>(mem_own.1 hy).2,fun hy=>mem_own.2 ⟨h5.low y hy,hy⟩⟩,h5,Step.refl _ _⟩ ?round2 ?done2 (fun _ _ _ _ _ _ h _=>h.elim)
    case fp2 =>
     intro y hy
     refine ⟨(mem_own.1 hy).1,fun e=>?_⟩
     have:=(mem_own.1 hy).2
     rw [e,hr6] at this
     cases this
    case st2 =>
     rintro k f A B M' ⟨p',hfm,hi,hs⟩ hF hM
     have hge:∀y∈M',w5.heap.size≤y∧y ∉ f:=fun y hy=>by rcases hM y hy with h1 | h1;cases h1;exact h1
     refine ⟨p',hfm,hi.fr hF (fun y hy=>?_),hs.box hF (fun y hy=>(hge y hy).1)⟩
     cases e:p'.r y with
     | none=>rfl
     | some q=>exact absurd ((hfm y).2 (by rw [e];rfl)) (hge y hy).2
    case round2 =>
     rintro lp k f A args q1 q2 q3 q4 hk ⟨p',hfm,hi,hs⟩ rfl
     refine ⟨rfl,?_⟩
     have hI:=hWI k (by omega)
     have hfct:=pc_facts (z_pos M) hk
     have hat:=pcE_at (z_pos M) hk
     have hsl:=hidIt (pc_slice (M:=M) hbl.out hk)
     have hin:=hidIt (hI.inn hal hk)
     have hrm:=hWR k hk
     have hokR:=hidIt hI.ok
     have hRB:=hidIt hI.B
     have hRt:=hidIt hI.t
     have hzR:=hidIt hI.z
     have hstep:Hid (wrN false M a l b (belF bel) (k+1)=putI (wrN false M a l b (belF bel) k) (pcC M.z a k) (pcFr M.z a k) ((b.drop (pcAt M.z a k)).take (pcTo M.z a l k - pcFr M.z a k)) (cluB (wrN false M a l b (belF bel) k) (pcC M.z a k) bel)):=hidIt (by
      show wrK false _ _ _ _ _ _=_
      unfold wrK
      rw [if_neg (by simp),if_neg (by simp)]
      rfl)
     have hb0:0<b.length:=by rw [hbl.out];have:=((pc_lt (z_pos M)).1 hk).1;omega
     have hft:pcFr M.z a k<pcTo M.z a l k:=hfct.1
     have htz:pcTo M.z a l k≤M.z:=hfct.2.1
     have hAL:pcAt M.z a k+(pcTo M.z a l k - pcFr M.z a k)≤L:=by rw [hL16.out];exact hfct.2.2.2.1
     have hL3:L≤65536:=by rw [hL16.out];omega
     have hneed2:∀R:Img,needK false R (pcC M.z a k) (pcFr M.z a k) (pcTo M.z a l k)=needB (R.t.getD (pcC M.z a k) zS):=fun R=>rfl
     rw [hneed2] at hrm
     unfold pieceV
     clear hseq2 hI hfct hat hneed2 hWI hWR
     obtain ⟨R1,hR1⟩:∃R1,Hid (wrN false M a l b (belF bel) (k+1)=R1):=⟨_,hidIt rfl⟩
     rw [hR1.out] at hstep
     generalize wrN false M a l b (belF bel) k=R at *
     generalize pcAt M.z a k=A0 at *
     generalize pcFr M.z a k=F0 at *
     generalize pcTo M.z a l k=T0 at *
     generalize pcC M.z a k=c0 at *
     have hfp:=(Fr.refl [] A).alloc (.cells #[.int .i64 (c0:Int),.int .i64 (F0:Int),.int .i64 (T0:Int),.int .i64 (A0:Int)] 201)
     have hA5:w5.heap.size≤A.heap.size:=hs.fr.size
     gi_wp2
     have Bp:=Blk.new A [.int .i64 (c0:Int),.int .i64 (F0:Int),.int .i64 (T0:Int),.int .i64 (A0:Int)] 201
     have hrp:p'.r A.heap.size=none:=hi.new (Nat.le_refl _)
     have hq4:=hfp.size
     refine ⟨⟨p',hfm,hi.fr0 hfp,hs.trans (Step.fr0 hfp)⟩,hfp,?_⟩
     clear hi hs hrp hfm
     rintro A2 ⟨p',hfm,hi,hs⟩ hF2 hsz2
     have hlA2:A.heap.size<A2.heap.size:=by rw [hsz2];simp
     have Bp2:=Bp.fr hF2 (by simp;omega)
     have hrp:p'.r A.heap.size=none:=by
      cases e:p'.r A.heap.size with
      | none=>rfl
      | some q=>have:=q4 _ ((hfm A.heap.size).2 (by rw [e];rfl));omega
     obtain ⟨b02,r02⟩:=box_step b05 hrb0 hs
     obtain ⟨b12,r12⟩:=box_step b15 hrb1 hs
     obtain ⟨b22,r22⟩:=box_step b25 hrb2 hs
     obtain ⟨hvb2,hvr2⟩:=far.step hvb5 hb0 (hvr (by rw [hL16.out,←hbl.out];exact hb0)) hs
     have hbel2:=hbel5.step hs
     have hd:Fr [] A2 A2.drew:=(Fr.refl _ _).drew
     have hid:=hi.fr0 hd
     have nown:∀y,p'.r y=none→y ∉ own p' A2.drew:=fun y hy hm=>by have:=(mem_own.1 hm).2;rw [hy] at this;cases this
     have n0:=nown _ r02
     have n1:=nown _ r12
     have n2:=nown _ r22
     have np:=nown _ hrp
     have b0d:=b02.fr0 hd
     have b1d:=b12.fr0 hd
     have b2d:=b22.fr0 hd
     have bpd:=Bp2.fr0 hd
     have hvbd:=slY_fr0 hvb2 hd
     rw [show L=b.length from hL16.out.trans hbl.out.symm] at hvbd
     obtain ⟨gv,ov,rfl,_,_⟩:=SlY.at hvbd hb0
     obtain ⟨E0,hE0⟩:∃E0,Hid (E0=A0+(T0 - F0)):=⟨_,hidIt rfl⟩
     have hE0':=hE0.out
     have hc1:A0≤E0:=by omega
     have hc2:E0≤vc:=by omega
     have hc3:¬vc=A0:=by omega
     have hw1:IntKind.i64.wrap ((A0:Int)+(T0:Int))=(A0:Int)+(T0:Int):=IntWalk.i64_in _ (by omega)
     have hw2:IntKind.i64.wrap ((A0:Int)+(T0:Int) - (F0:Int))=(E0:Int):=by rw [IntWalk.i64_in _ (by omega)];omega
     have hdl:E0 - A0=T0 - F0:=by omega
     have hslb:SlY A2.drew (.slice (some ⟨gv,ov+A0,none⟩) (E0 - A0) (vc - A0)) ((b.drop A0).take (T0 - F0)):=by
      have h1:=SlF.mid 1 (fun _=>rfl) hvbd (m:=A0) (j:=E0) (by rw [←hL16.out.trans hbl.out.symm];omega) hc1
      have h2:slAddr (some ⟨gv,ov,none⟩) vc A0 1=some ⟨gv,ov+A0,none⟩:=by simp [slAddr,hc3,Addr.add]
      have h3:(b.take E0).drop A0=(b.drop A0).take (T0 - F0):=by rw [List.drop_take,hdl]
      rwa [h2,h3] at h1
     have hfarb:far p' (.slice (some ⟨gv,ov+A0,none⟩) (E0 - A0) (vc - A0)):=fun y hy=>hvr2 y (by simpa [Value.ownBlock] using hy)
     clear hE0' hdl
     have hput:=iPut_calls c0 F0 T0 A0 _ _ fv bel A2.drew hid hokR.out hin.out hsl.out.symm (by rw [hzR.out];exact htz) (by have:=hsl.out;omega) hslb hfarb ((hbel2.fr0 hd).img hRB.out hRt.out) hrm.out
     rw [←hstep.out,hfv] at hput
     clear hvb5 hvb2 hvb hvr hbel hbel5 hslb hfarb hsl
     gi_wp2_with fail
     refine wpIn_region_G (Fr (own p' A2.drew) A2.drew) [(true,0),(true,1),(true,2),(true,3),(true,4),(true,5),(true,6),(true,7),(true,8),(true,9),(true,10),(true,11),(true,12),(true,13),(true,14),(false,15)] (by as_aux_lemma=>kernel_rfl) (by as_aux_lemma=>kernel_rfl) (Fr.refl _ _) ?_
     simp only [inOrder,jD,jE,jF,jG]
     refine wpG_val (.pointer (some ⟨ib,0,none⟩)) (by first | rfl | go_simp) (fun X hX=>by have cc:=(b0d.fr hX n0).cell;go_simp) ?_
     simp only [Act.put,jA,jB,jC]
     refine wpG_val (.agg #[.int .i64 (c0:Int),.int .i64 (F0:Int),.int .i64 (T0:Int),.int .i64 (A0:Int)]) (by first | rfl | go_simp) (fun X hX=>by have cc:=(bpd.fr hX np).cell;go_simp) ?_
     simp only [Act.put,jA,jB,jC]
     refine wpG_val (.slice (some ⟨gv,ov,none⟩) L vc) (by first | rfl | go_simp) (fun X hX=>by have cc:=(b1d.fr hX n1).cell;go_simp) ?_
     simp only [Act.put,jA,jB,jC]
     iterate 1 (refine wpG_pure fun K hK=>?_;go_simp;refine hK _ ?_;clear hK K)
     refine wpG_val (.int .i64 (A0:Int)) (by first | rfl | go_simp) (fun X hX=>by have cc:=(bpd.fr hX np).cell;go_simp) ?_
     simp only [Act.put,jA,jB,jC]
     iterate 1 (refine wpG_pure fun K hK=>?_;go_simp;refine hK _ ?_;clear hK K)
     refine wpG_val (.int .i64 (A0:Int)) (by first | rfl | go_simp) (fun X hX=>by have cc:=(bpd.fr hX np).cell;go_simp) ?_
     simp only [Act.put,jA,jB,jC]
     iterate 1 (refine wpG_pure fun K hK=>?_;go_simp;refine hK _ ?_;clear hK K)
     refine wpG_val (.int .i64 (T0:Int)) (by first | rfl | go_simp) (fun X hX=>by have cc:=(bpd.fr hX np).cell;go_simp) ?_
     simp only [Act.put,jA,jB,jC]
     iterate 2 (refine wpG_pure fun K hK=>?_;go_simp;refine hK _ ?_;clear hK K)
     refine wpG_val (.int .i64 (F0:Int)) (by first | rfl | go_simp) (fun X hX=>by have cc:=(bpd.fr hX np).cell;go_simp) ?_
     simp only [Act.put,jA,jB,jC]
     iterate 2 (refine wpG_pure fun K hK=>?_;go_simp;refine hK _ ?_;clear hK K)
     refine wpG_val (fv) (by first | rfl | go_simp) (fun X hX=>by have cc:=(b2d.fr hX n2).cell;go_simp) ?_
     simp only [Act.put,jA,jB,jC]
     refine wpG_one fun K hK=>?_
     go_simp
     refine (hput).mono ?_
     rintro e A4 ⟨p6,rfl,hi6,hs6⟩
     refine hK _ _ (hs6.fr) ?_
     clear hK K
     refine wpG_end ?_
     have hst2:Step A2 p' A4 p6:=(Step.fr0 hd).trans hs6
     clear hbel2 hid b0d b1d b2d bpd hvbd hrm hi Bp2 b02 b12 b22
     gi_wp2
     refine ⟨own p6 A4,⟨p6,fun y=>⟨fun hy=>(mem_own.1 hy).2,fun hy=>mem_own.2 ⟨hi6.low y hy,hy⟩⟩,by rw [hR1.out];exact hi6,hs.trans hst2⟩,hst2.fr.mono (fun y hy _=>(hfm y).2 (mem_own.1 hy).2),fun y hy=>?_⟩
     obtain ⟨o1,o2⟩:=mem_own.1 hy
     exact ⟨o1,(hst2.new y o2).imp (fun h=>(hfm y).2 h) id⟩
    case done2 =>
     rintro D2 f W2 d3 d4 ⟨p',hfm,hi,hs⟩ hK2
     have hDf:D ∉ own p w5:=fun hm=>by have:=(mem_own.1 hm).2;rw [hrD] at this;cases this
     have hKW:=(hs.fr.block D hD5 hDf).trans hK5
     have hD2:D≠D2:=by omega
     have hrD2:p'.r D2=none:=by
      cases e:p'.r D2 with
      | none=>rfl
      | some q=>exact absurd ((hfm D2).2 (by rw [e];rfl)) d4
     have hrD':p'.r D=none:=by
      cases e:p'.r D with
      | none=>rfl
      | some q =>
        rcases hs.new D (by rw [e];rfl) with h1 | h1
        ·rw [hrD] at h1;cases h1
        ·omega
     have hmk:Marks w.heap.size [D2,D] W2:=((Marks.nil _ _).cons hKW hDw (by simp)).cons hK2 (by omega) (by simpa using hD2.symm)
     go_wp2
     refine leave_marks (Ds:=[D2,D]) rfl hmk (fun W' _=>results_tmp rfl _ _ _) fun W' hF=>⟨rfl,p',hi.fr hF (fun y hy=>?_),(hst5.trans hs).box hF (fun y hy=>hmk.ge y hy)⟩
     rcases List.mem_cons.1 hy with rfl | hy
     ·exact hrD2
     ·rw [List.mem_singleton.1 hy];exact hrD'
end
def discardE (M:Img) (x l:Int):Int × Img:=if insideI M x l≠0 then (insideI M x l,M) else (0,discardI M x.toNat l.toNat)
section
variable {ib:Nat} {p:Pl} {M:Img}
theorem OkI.liveS {M:Img} (h:OkI M) {c:Nat} (hc:c<M.t.length):liveS M (M.t.getD c zS):=fun e=>⟨h.right _ (getD_memS hc),h.live (getD_memS hc) e⟩
theorem iDiscard_calls (x l:Int) (w:World) (h:ImgW w ib p M) (hok:OkI M):Calls Tryz.prog 85 #[.pointer (some ⟨ib,0,none⟩),.int .i64 x,.int .i64 l] w (resPost w ib p (discardE M x l)):=by
 have B0:=Blk.new w [.pointer (some ⟨ib,0,none⟩)] 112
 have hF0:=(Fr.refl [] w).alloc (.cells #[.pointer (some ⟨ib,0,none⟩)] 112)
 have h0:=h.fr0 hF0
 have kI:=iInside_calls x l _ h0 hok.B
 have c0:=B0.cell
 unfold resPost
 obtain ⟨r,hr⟩:∃r,Hid (r=discardE M x l):=⟨_,hidIt rfl⟩
 rw [←hr.out]
 by_cases hE:insideI M x l=0
 case neg =>
  have hE2:r=(insideI M x l,M):=by rw [hr.out];unfold discardE;rw [if_pos hE]
  rw [hE2]
  generalize insideI M x l=E at *
  clear hr
  refine calls_marks Tryz.func85 rfl ?_
  simp only [Tryz.ntmps85,List.size_toArray,List.length_cons,List.length_nil,Nat.reduceAdd,Nat.reduceSub,Array.replicate_succ,Array.replicate_zero,List.push_toArray,List.append_toArray,List.nil_append,List.cons_append]
  go_wp2_with fail
  refine kI.mono ?_
  rintro e w1 ⟨rfl,hf1⟩
  go_wp2
  exact leave_plain rfl (results_tmp rfl _ _ _) ⟨_,rfl,h0.fr0 hf1,Step.fr0 (hF0.trans0 hf1)⟩
 obtain ⟨a,n,rfl,rfl,hal⟩:=inside_ok hE
 have hr':r=(0,discardI M a n):=by rw [hr.out];unfold discardE;rw [if_neg (by simpa using hE)];rfl
 clear hr
 subst hr'
 have hal2:=all_le hok.toOkJ
 have hz128:=z_le hok.toOkJ
 have hB:=hok.B
 rw [hE] at kI
 refine calls_marks Tryz.func85 rfl ?_
 simp only [Tryz.ntmps85,List.size_toArray,List.length_cons,List.length_nil,Nat.reduceAdd,Nat.reduceSub,Array.replicate_succ,Array.replicate_zero,List.push_toArray,List.append_toArray,List.nil_append,List.cons_append]
 go_wp2_with fail
 refine kI.mono ?_
 rintro e w1 ⟨rfl,hf1⟩
 have B1:=B0.fr0 hf1
 have hF1:=hF0.trans0 hf1
 have h1:=h0.fr0 hf1
 have c1:=B1.cell
 clear c0 h0 hf1 hF0 kI B0
 go_wp2_with fail
 refine (iPieces_calls (ib:=ib) a n _).mono ?_
 rintro e w3 ⟨b1,b2,b3,rfl,hb1,hb2,hb3,hf3,g1,g2,g3⟩
 have h3:=h1.fr0 hf3
 have hseq:=pieces_seq b1 b2 b3 a n w3 h3 hok.B (by omega) hb1 hb2 hb3
 have B3:=B1.fr0 hf3
 have hF3:=hF1.trans0 hf3
 have hrb:p.r w.heap.size=none:=h.new (Nat.le_refl _)
 have hr3:p.r b3=none:=h1.new g3
 have hst3:Step w p w3 p:=Step.fr0 hF3
 have hz3:=hF3.size
 clear c1 h1 hF1 B1 hf3 hb1 hb2 g1 g2 g3
 go_wp2_with fail
 refine wp_rangeFunc_seq rfl (enters_of Tryz.func174 (by kernel_rfl) rfl) hseq (Fr.refl _ _) (fun k f A=>f=own p w3∧ImgW A ib p (disN M a n k)∧Step w3 p A p) (fun _ _ _=>False) (own p w3) ?st (fun _ _ _ _ _ h _ _=>h) (by simp) ?fp ⟨rfl,h3,Step.refl _ _⟩ ?round ?done (fun _ _ _ _ _ _ h _=>h.elim)
 case fp =>
  intro y hy
  refine ⟨(mem_own.1 hy).1,fun e=>?_⟩
  have:=(mem_own.1 hy).2
  rw [e,hr3] at this
  cases this
 case st =>
  rintro k f A B M' ⟨rfl,hi,hs⟩ hF hM
  have hge:∀y∈M',w3.heap.size≤y∧y ∉ own p w3:=fun y hy=>by rcases hM y hy with h1 | h1;cases h1;exact h1
  exact ⟨rfl,hi.fr hF (fun y hy=>h3.new (hge y hy).1),hs.box hF (fun y hy=>(hge y hy).1)⟩
 case round =>
  rintro lp k f A args q1 q2 q3 q4 hk ⟨rfl,hi,hs⟩ rfl
  refine ⟨rfl,?_⟩
  have hI:=dis_inv hok hal k (by omega)
  have hfct:=pc_facts (z_pos M) hk
  have hin:Hid (pcC M.z a k<(disN M a n k).t.length):=hidIt (by rw [hI.t];exact pc_in (z_pos M) rfl hal hk)
  have hokR:=hidIt hI.ok
  have hBR:=hI.ok.B
  have hzR:(disN M a n k).z=M.z:=by unfold Img.z;rw [hI.B]
  have hft:pcFr M.z a k<pcTo M.z a n k:=hfct.1
  have htz:pcTo M.z a n k≤M.z:=hfct.2.1
  obtain ⟨R1,hR1⟩:∃R1,Hid (disN M a n (k+1)=R1):=⟨_,hidIt rfl⟩
  have hstep:Hid (R1=if pcTo M.z a n k - pcFr M.z a k=M.z then setI (disN M a n k) (pcC M.z a k) zS else disN M a n k):=hidIt (by rw [←hR1.out];rfl)
  unfold pieceV
  clear hseq hI hfct
  generalize disN M a n k=R at *
  generalize pcAt M.z a k=A0 at *
  generalize pcFr M.z a k=F0 at *
  generalize pcTo M.z a n k=T0 at *
  generalize pcC M.z a k=c0 at *
  have hfp:=(Fr.refl [] A).alloc (.cells #[.int .i64 (c0:Int),.int .i64 (F0:Int),.int .i64 (T0:Int),.int .i64 (A0:Int)] 201)
  gi_wp2
  have Bp:=Blk.new A [.int .i64 (c0:Int),.int .i64 (F0:Int),.int .i64 (T0:Int),.int .i64 (A0:Int)] 201
  have hrp:p.r A.heap.size=none:=hi.new (Nat.le_refl _)
  have hq4:=hfp.size
  refine ⟨⟨trivial,hi.fr0 hfp,hs.trans (Step.fr0 hfp)⟩,hfp,?_⟩
  clear hi hs
  rintro A2 ⟨_,hi,hs⟩ hF2 hsz2
  have Bp2:=Bp.fr hF2 (by simp;omega)
  obtain ⟨b02,r02⟩:=box_step B3 hrb hs
  have hd:Fr [] A2 A2.drew:=(Fr.refl _ _).drew
  have hid:=hi.fr0 hd
  have b0d:=b02.fr0 hd
  have bpd:=Bp2.fr0 hd
  have kB:=iBytes_calls A2.drew hid hBR
  rw [hzR] at kB
  have hw2:IntKind.i64.wrap ((T0:Int) - (F0:Int))=((T0 - F0:Nat):Int):=by rw [IntWalk.i64_in _ (by omega)];omega
  obtain ⟨z,hz⟩:∃z,z=M.z:=⟨_,rfl⟩
  obtain ⟨dd,hdd⟩:∃dd,T0 - F0=dd:=⟨_,rfl⟩
  rw [←hz] at kB hstep htz hz128
  rw [hdd] at hw2 hstep
  clear hdd hz hzR
  gi_wp2_with fail
  refine wpIn_region_G (Fr [] A2.drew) [(true,0),(true,1),(true,2),(true,3),(true,4),(true,5),(false,6),(true,7)] (by as_aux_lemma=>kernel_rfl) (by as_aux_lemma=>kernel_rfl) (Fr.refl _ _) ?_
  simp only [inOrder,jD,jE,jF,jG]
  iterate 1 (refine wpG_pure fun K hK=>?_;go_simp;refine hK _ ?_;clear hK K)
  refine wpG_val (.int .i64 (T0:Int)) (by first | rfl | go_simp) (fun X hX=>by have cc:=(bpd.fr0 hX).cell;go_simp) ?_
  simp only [Act.put,jA,jB,jC]
  iterate 1 (refine wpG_pure fun K hK=>?_;go_simp;refine hK _ ?_;clear hK K)
  refine wpG_val (.int .i64 (F0:Int)) (by first | rfl | go_simp) (fun X hX=>by have cc:=(bpd.fr0 hX).cell;go_simp) ?_
  simp only [Act.put,jA,jB,jC]
  iterate 1 (refine wpG_pure fun K hK=>?_;go_simp;refine hK _ ?_;clear hK K)
  refine wpG_val (.pointer (some ⟨ib,0,none⟩)) (by first | rfl | go_simp) (fun X hX=>by have cc:=(b0d.fr0 hX).cell;go_simp) ?_
  simp only [Act.put,jA,jB,jC]
  refine wpG_one fun K hK=>?_
  go_simp
  refine (kB).mono ?_
  rintro e w4 ⟨rfl,rfl⟩
  refine hK _ _ (Fr.refl _ _) ?_
  clear hK K
  have hown:∀y,(p.r y).isSome=true→y∈own p w3:=fun y hy=>mem_own.2 ⟨h3.low y hy,hy⟩
  by_cases hcz:dd=z
  ·rw [if_pos hcz] at hstep
   have hcz':((dd:Int) == (z:Int))=true:=by rw [hcz];simp
   iterate 1 (refine wpG_pure fun K hK=>?_;go_simp;refine hK _ ?_;clear hK K)
   refine wpG_end ?_
   have cb:=b0d.cell
   have cp:=bpd.cell
   have kS:=iSet_calls c0 zS A2.drew hid hin.out (by simp [rightS,zS]) (hokR.out.liveS hin.out)
   unfold slotV zS at kS
   simp only at kS
   clear kB
   gi_wp2_with fail
   refine ⟨trivial,rfl,(CallsIn.inRound lp (callsIn_wide.2 kS)).mono ?_⟩
   rintro e A4 ⟨rfl,hi6,hs6⟩
   have hst2:Step A2 p A4 p:=(Step.fr0 hd).trans hs6
   gi_wp2
   refine ⟨_,⟨rfl,by rw [hR1.out,hstep.out];exact hi6,hs.trans hst2⟩,hst2.fr.mono (fun y hy _=>hown y (mem_own.1 hy).2),fun y hy=>⟨hi6.low y (mem_own.1 hy).2,.inl hy⟩⟩
  ·rw [if_neg hcz] at hstep
   have hcz':((dd:Int) == (z:Int))=false:=by simp;omega
   iterate 1 (refine wpG_pure fun K hK=>?_;go_simp;refine hK _ ?_;clear hK K)
   refine wpG_end ?_
   gi_wp2
   refine ⟨_,⟨rfl,by rw [hR1.out,hstep.out];exact hid,hs.trans (Step.fr0 hd)⟩,hd.weak,fun y hy=>⟨hid.low y (mem_own.1 hy).2,.inl hy⟩⟩
 case done =>
  rintro D f W d1 d2 ⟨rfl,hi,hs⟩ hK
  go_wp2
  refine leave_mark rfl hK (fun W' _=>results_tmp rfl _ _ _) fun W' hF=>⟨p,rfl,hi.fr hF (fun y hy=>by rw [List.mem_singleton.1 hy];exact h3.new d1),(hst3.trans hs).box hF (fun y hy=>by rw [List.mem_singleton.1 hy];omega)⟩
end
end Go.Proofs.YtffnihooekbcnaaGreat
