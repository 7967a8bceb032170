/-
  Package image: Zero.
-/
import Derived.Test.YtffnihooekbcnaaGreatG10
set_option maxRecDepth 100000
set_option maxHeartbeats 6400000
namespace Go.Proofs.YtffnihooekbcnaaGreat
open Go.RowKit Go.Maps
attribute [local go_sem] Oper.semAt_some
attribute [local go_sem] mapAt_alloc mapAt_setCell mapAt_drew mapAt_drewN
def zeroE (M:Img) (x l:Int) (bel:List By):Int × Img :=
 if insideI M x l≠0 then (insideI M x l,M)
 else if freeN M.n<needN true M x.toNat l.toNat (pcN M.z x.toNat l.toNat) then (120,M) else (0,writeI true M x.toNat l.toNat (zBy (16*l.toNat)) (belF bel))
theorem needN_nextZ (M:Img) (a l k:Nat):needN true M a l (k+1)=needN true M a l k+(if (!(decide (pcTo M.z a l k - pcFr M.z a k=M.z) || decide ((M.t.getD (pcC M.z a k) zS).1=2)) && needB (M.t.getD (pcC M.z a k) zS))=true then 1 else 0):=needN_succ true M a l k
section
variable {ib:Nat} {p:Pl} {M:Img}
theorem iWhole_calls (c f t a bm:Nat) (w:World) (hb:Blk w bm [.pointer (some ⟨ib,0,none⟩)] 112) (h:ImgW w ib p M) (hB:M.B≤3) (hft:f≤t) (ht:t≤65536) :
 Calls Tryz.prog 141 #[.agg #[.int .i64 (c:Int),.int .i64 (f:Int),.int .i64 (t:Int),.int .i64 (a:Int)],.pointer (some ⟨bm,0,none⟩)] w fun e w'=>e=.returned (.bool (decide (t - f=M.z)))∧Fr [] w w':=by
 have hf:=(Fr.refl [] w).alloc (.cells #[.int .i64 (c:Int),.int .i64 (f:Int),.int .i64 (t:Int),.int .i64 (a:Int)] 201)
 have Bp:=Blk.new w [.int .i64 (c:Int),.int .i64 (f:Int),.int .i64 (t:Int),.int .i64 (a:Int)] 201
 have b0:=hb.fr0 hf
 have h1:=h.fr0 hf
 have hw2:IntKind.i64.wrap ((t:Int) - (f:Int))=((t - f:Nat):Int):=by rw [IntWalk.i64_in _ (by omega)];omega
 have kB:=fun W (hW:Fr [] (w.alloc (.cells #[.int .i64 (c:Int),.int .i64 (f:Int),.int .i64 (t:Int),.int .i64 (a:Int)] 201)) W)=>iBytes_calls W (h1.fr0 hW) hB
 have hdec:((((t - f:Nat):Int)) == ((M.z:Nat):Int))=decide (t - f=M.z):=by
  by_cases e:t - f=M.z
  ·rw [decide_eq_true e,e];simp
  ·rw [decide_eq_false e];simp;omega
 generalize decide (t - f=M.z)=R at *
 generalize M.z=z at *
 generalize t - f=dd at *
 clear h h1
 go_enter Tryz.func141,Tryz.ntmps141
 go_wp2_with fail
 generalize w.alloc (.cells #[.int .i64 (c:Int),.int .i64 (f:Int),.int .i64 (t:Int),.int .i64 (a:Int)] 201)=w1 at *
 have hd:Fr [] w1 w1.drew:=(Fr.refl [] w1).drew
 refine wp_region_G (Fr [] w1.drew) [(true,0),(true,1),(true,2),(true,3),(true,4),(true,5),(false,6),(true,7),(true,8)] (by as_aux_lemma=>kernel_rfl) (by as_aux_lemma=>kernel_rfl) (Fr.refl _ _) ?_
 simp only [inOrder,jD,jE,jF,jG]
 iterate 1 (refine wpG_pure fun K hK=>?_;go_simp;refine hK _ ?_;clear hK K)
 refine wpG_val (.int .i64 (t:Int)) (by first | rfl | go_simp) (fun X hX=>by have cc:=((Bp.drew).fr0 hX).cell;go_simp) ?_
 simp only [Act.put,jA,jB,jC]
 iterate 1 (refine wpG_pure fun K hK=>?_;go_simp;refine hK _ ?_;clear hK K)
 refine wpG_val (.int .i64 (f:Int)) (by first | rfl | go_simp) (fun X hX=>by have cc:=((Bp.drew).fr0 hX).cell;go_simp) ?_
 simp only [Act.put,jA,jB,jC]
 iterate 1 (refine wpG_pure fun K hK=>?_;go_simp;refine hK _ ?_;clear hK K)
 refine wpG_val (.pointer (some ⟨ib,0,none⟩)) (by first | rfl | go_simp) (fun X hX=>by have cc:=((b0.drew).fr0 hX).cell;go_simp) ?_
 simp only [Act.put,jA,jB,jC]
 refine wpG_one fun K hK=>?_
 go_simp
 refine (kB _ hd).mono ?_
 rintro e w2 ⟨rfl,rfl⟩
 refine hK _ _ (Fr.refl _ _) ?_
 clear hK K
 iterate 2 (refine wpG_pure fun K hK=>?_;go_simp;refine hK _ ?_;clear hK K)
 refine wpG_end ?_
 go_wp2
 go_ret
 exact ⟨rfl,hf.trans0 hd⟩
theorem iZero_calls (x l:Int) (fv:Value) (bel:List By) (w:World) (h:ImgW w ib p M) (hok:OkI M) (hbel:BelW ib M p w fv bel) :
 Calls Tryz.prog 83 #[.pointer (some ⟨ib,0,none⟩),.int .i64 x,.int .i64 l,fv] w (resPost w ib p (zeroE M x l bel)):=by
 have hfv:fv=.nilFunc∨∃F A C,fv=.func F A C:=by rcases hbel with ⟨_,rfl⟩ | ⟨_,_,_,rfl,_⟩;exact .inl rfl;exact .inr ⟨_,_,_,rfl⟩
 rcases hfv with rfl | ⟨F,A,C,rfl⟩
 case' inl=>obtain ⟨fv,hfv⟩:∃fv,fv=Value.nilFunc:=⟨_,rfl⟩;rw [←hfv] at hbel
 case' inr=>obtain ⟨fv,hfv⟩:∃fv,fv=Value.func F A C:=⟨_,rfl⟩;rw [←hfv] at hbel
 all_goals
  obtain ⟨W0,hW0⟩:∃W0,(w.alloc (.cells #[.pointer (some ⟨ib,0,none⟩)] 112)).alloc (.cells #[fv] 132)=W0:=⟨_,rfl⟩
  have hF0:Fr [] w W0:=by rw [←hW0];exact ((Fr.refl [] w).alloc _).alloc _
  have B0:Blk W0 w.heap.size [.pointer (some ⟨ib,0,none⟩)] 112:=by rw [←hW0];exact (Blk.new w _ _).alloc _
  have B2:Blk W0 (w.heap.size+1) [fv] 132:=by rw [←hW0];exact Blk.new' (by simp) _ _
  have h0:=h.fr0 hF0
  have c0:=B0.cell
  have c2:=B2.cell
  rw [hfv] at c2 hW0
  unfold resPost
  obtain ⟨r,hr⟩:∃r,Hid (r=zeroE M x l bel):=⟨_,hidIt rfl⟩
  rw [←hr.out]
  have kI:=iInside_calls x l W0 h0 hok.B
  by_cases hE:insideI M x l=0
  case neg =>
   have hE2:r=(insideI M x l,M):=by rw [hr.out];unfold zeroE;rw [if_pos hE]
   rw [hE2]
   generalize insideI M x l=E at *
   clear hr
   refine calls_marks Tryz.func83 rfl ?_
   simp only [Tryz.ntmps83,List.size_toArray,List.length_cons,List.length_nil,Nat.reduceAdd,Nat.reduceSub,Array.replicate_succ,Array.replicate_zero,List.push_toArray,List.append_toArray,List.nil_append,List.cons_append]
   go_wp2_with fail
   refine kI.mono ?_
   rintro e w1 ⟨rfl,hf1⟩
   go_wp2
   exact leave_plain rfl (results_tmp rfl _ _ _) ⟨_,rfl,h0.fr0 hf1,Step.fr0 (hF0.trans0 hf1)⟩
  obtain ⟨a,l,rfl,rfl,hal⟩:=inside_ok hE
  have hal2:=all_le hok.toOkJ
  have hz128:=z_le hok.toOkJ
  have hB:=hok.B
  have hr':Hid (r=if freeN M.n<needN true M a l (pcN M.z a l) then (120,M) else (0,writeI true M a l (zBy (16*l)) (belF bel))):=hidIt (by
   rw [hr.out];unfold zeroE;rw [if_neg (by simpa using hE),Int.toNat_natCast,Int.toNat_natCast])
  rw [hE] at kI
  clear hr
  refine calls_marks Tryz.func83 rfl ?_
  simp only [Tryz.ntmps83,List.size_toArray,List.length_cons,List.length_nil,Nat.reduceAdd,Nat.reduceSub,Array.replicate_succ,Array.replicate_zero,List.push_toArray,List.append_toArray,List.nil_append,List.cons_append]
  go_wp2_with fail
  refine kI.mono ?_
  rintro e w1 ⟨rfl,hf1⟩
  have hz1:=hf1.size
  have hz0:=B2.lt
  obtain ⟨wa,hwa⟩:∃wa,(w1.alloc (.cells #[.func (.func 141) #[] #[.pointer (some ⟨w.heap.size,0,none⟩)]] 212)).alloc (.cells #[.int .i64 0] 3)=wa:=⟨_,rfl⟩
  have hwa':=hidIt hwa
  have hFa:Fr [] W0 wa:=by rw [←hwa];exact (hf1.alloc _).alloc _
  have Bw:Blk wa w1.heap.size [.func (.func 141) #[] #[.pointer (some ⟨w.heap.size,0,none⟩)]] 212:=by rw [←hwa];exact (Blk.new w1 _ _).alloc _
  have Bn:Blk wa (w1.heap.size+1) [.int .i64 0] 3:=by rw [←hwa];exact Blk.new' (by simp) _ _
  have h1:=h0.fr0 hf1
  have hbw:p.r w1.heap.size=none:=h1.new (Nat.le_refl _)
  have hbn:p.r (w1.heap.size+1)=none:=h1.new (by omega)
  have B0a:=B0.fr0 hFa
  have B0b:=B0.fr0 hf1
  have c0b:=B0b.cell
  have l0b:=B0b.lt
  have B2a:=B2.fr0 hFa
  have hFa0:=hF0.trans0 hFa
  clear c0 c2 kI B0 B2 hwa
  go_wp2_with fail
  rw [hwa'.out]
  refine (iPieces_calls (ib:=ib) a l _).mono ?_
  rintro e w3 ⟨b1,b2,b3,rfl,hb1,hb2,hb3,hf3,g1,g2,g3⟩
  have h3:=h.fr0 (hFa0.trans0 hf3)
  have hseq:=pieces_seq b1 b2 b3 a l w3 h3 hok.B (by omega) hb1 hb2 hb3
  have Bn3:=Bn.fr0 hf3
  have Bw3:=Bw.fr0 hf3
  have B03:=B0a.fr0 hf3
  have B23:=B2a.fr0 hf3
  have hF3:=hFa0.trans0 hf3
  have hln3:=Bn3.lt
  have hg3:w1.heap.size+1<b3:=by have:=Bn.lt;omega
  clear hb1 hb2 hf3 Bn Bw B0a B0b c0b B2a hFa hFa0 g1 g2 g3 hf1 h1 l0b
  go_wp2_with fail
  have hN:=pcN_le (z:=M.z) (a:=a) (l:=l)
  have nb0:∀{y},y<w1.heap.size+1→y ∉ [w1.heap.size+1]:=fun hy hm=>by have:=List.mem_singleton.1 hm;omega
  refine wp_rangeFunc_seq rfl (enters_of Tryz.func174 (by kernel_rfl) rfl) hseq (Fr.refl _ _) (fun k f A=>f=[w1.heap.size+1]∧Blk A (w1.heap.size+1) [.int .i64 (needN true M a l k:Nat)] 3∧Fr [w1.heap.size+1] w3 A) (fun _ _ _=>False) [w1.heap.size+1] ?st (fun _ _ _ _ _ h _ _=>h) (by simp) (by simp;omega) ⟨rfl,Bn3,Fr.refl _ _⟩ ?round ?done (fun _ _ _ _ _ _ h _=>h.elim)
  case st =>
   rintro k f A B M' ⟨rfl,hb,hf⟩ hF hM
   exact ⟨rfl,stab_blk hb hF hM hln3 (by simp),hf.trans hF (fun y hy hl=>by rcases hM y hy with h1 | h1;cases h1;omega)⟩
  case round =>
   rintro lp k f A args q1 q2 q3 q4 hk ⟨rfl,hb,hf⟩ rfl
   refine ⟨rfl,?_⟩
   have Hn:=hidIt (needN_nextZ M a l k)
   have hle:=needN_le true M a l k
   have hfct:=pc_facts (z_pos M) hk
   have kW:=fun W (hW:ImgW W ib p M) (hb:Blk W w.heap.size [.pointer (some ⟨ib,0,none⟩)] 112)=>iWhole_calls (pcC M.z a k) (pcFr M.z a k) (pcTo M.z a l k) (pcAt M.z a k) w.heap.size W hb hW hB (by omega) (by omega)
   have kK:=fun W (hW:ImgW W ib p M)=>iKind_calls (pcC M.z a k:Nat) W hW
   have kN:=fun W (hW:ImgW W ib p M)=>iNeeds_calls (pcC M.z a k) (pcFr M.z a k) (pcTo M.z a l k) (pcAt M.z a k) W hW
   have hk':k<65536:=by omega
   simp only [tget_nat] at kN kK
   unfold pieceV
   clear hseq hr' hfct
   obtain ⟨E1,hE1⟩:∃E,Hid (needN true M a l (k+1)=E):=⟨_,hidIt rfl⟩
   rw [hE1.out] at Hn
   generalize needN true M a l k=E0 at *
   generalize needB (M.t.getD (pcC M.z a k) zS)=nb at *
   generalize (M.t.getD (pcC M.z a k) zS).1=kd at *
   generalize decide (pcTo M.z a l k - pcFr M.z a k=M.z)=wh at *
   generalize pcAt M.z a k=A0 at *
   generalize pcFr M.z a k=F0 at *
   generalize pcTo M.z a l k=T0 at *
   generalize pcC M.z a k=c0 at *
   have hfp:=(Fr.refl [] A).alloc (.cells #[.int .i64 (c0:Int),.int .i64 (F0:Int),.int .i64 (T0:Int),.int .i64 (A0:Int)] 201)
   gi_wp2
   have Bp:=Blk.new A [.int .i64 (c0:Int),.int .i64 (F0:Int),.int .i64 (T0:Int),.int .i64 (A0:Int)] 201
   have hlA:=hb.lt
   have hq4:=hfp.size
   refine ⟨⟨trivial,hb.fr0 hfp,hf.trans0 hfp⟩,hfp,?_⟩
   clear hb hf
   rintro A2 ⟨_,hb,hf⟩ hF2 hsz2
   have Bp2:=Bp.fr hF2 (by simp;omega)
   have b0:=B03.fr hf (nb0 (by omega))
   have bw:=Bw3.fr hf (nb0 (by omega))
   have hi:=h3.fr hf (fun y hy=>by rw [List.mem_singleton.1 hy];exact hbn)
   have cw:=bw.cell
   have cp:=Bp2.cell
   have fin:∀A3,Fr [] A2 A3→E1=E0→∃f',(f'=[w1.heap.size+1]∧Blk A3 (w1.heap.size+1) [.int .i64 (needN true M a l (k+1):Nat)] 3∧Fr [w1.heap.size+1] w3 A3)∧Fr [w1.heap.size+1] A2 A3∧∀x∈f',x<A3.heap.size∧(x∈[w1.heap.size+1]∨A2.heap.size≤x):=fun A3 h3 e=>by
    have hb3':=hb.fr0 h3
    have l5:=hb3'.lt
    exact ⟨_,⟨rfl,by rw [hE1.out,e];exact hb3',hf.trans0 h3⟩,h3.weak,fun y hy=>by have:=List.mem_singleton.1 hy;subst this;exact ⟨l5,.inl List.mem_cons_self⟩⟩
   gi_wp2_with fail
   refine ⟨trivial,rfl,(CallsIn.inRound lp (callsIn_wide.2 (kW A2 hi b0))).mono ?_⟩
   rintro e A3 ⟨rfl,hf3⟩
   have hi3:=hi.fr0 hf3
   have c03:=(b0.fr0 hf3).cell
   have bp3:=Bp2.fr0 hf3
   have cp3:=bp3.cell
   have hb3:=hb.fr0 hf3
   have b03:=b0.fr0 hf3
   clear cw cp kW
   cases wh with
   | true =>
     have e:=Hn.out
     rw [if_neg (by simp),Nat.add_zero] at e
     have fin':=fin A3 hf3 e
     clear fin e Hn
     gi_wp2_with fail
     refine ⟨trivial,?_⟩
     gi_wp2_with fail
     refine ⟨trivial,?_⟩
     gi_wp2
     exact fin'
   | false =>
     gi_wp2_with fail
     refine ⟨trivial,rfl,(CallsIn.inRound lp (callsIn_wide.2 (kK A3 hi3))).mono ?_⟩
     rintro e A4 ⟨rfl,hf4⟩
     have hf34:=hf3.trans0 hf4
     have hi4:=hi3.fr0 hf4
     have c04:=(b03.fr0 hf4).cell
     have cp4:=(bp3.fr0 hf4).cell
     clear c03 cp3 kK hi3 hf3
     by_cases hkd:kd=2
     ·have e:=Hn.out
      rw [if_neg (by simp [hkd]),Nat.add_zero] at e
      have fin':=fin A4 hf34 e
      have hkn:(kd != 2)=false:=by simp [hkd]
      clear fin e Hn
      gi_wp2_with fail
      refine ⟨trivial,?_⟩
      gi_wp2
      exact fin'
     ·have hkn:(kd != 2)=true:=by simpa using hkd
      rw [decide_eq_false hkd] at Hn
      gi_wp2_with fail
      refine ⟨trivial,rfl,(CallsIn.inRound lp (callsIn_wide.2 (kN A4 hi4))).mono ?_⟩
      rintro e A5 ⟨rfl,hf5⟩
      have hf35:=hf34.trans0 hf5
      have hb5:=hb.fr0 hf35
      have c5:=hb5.cell
      have f5:=hb5.frozen
      have l5:=hb5.lt
      clear c04 cp4 kN hi4 hf34
      cases nb with
      | false =>
        have e:=Hn.out
        rw [if_neg (by simp),Nat.add_zero] at e
        have fin':=fin A5 hf35 e
        clear fin e Hn
        gi_wp2
        exact fin'
      | true =>
        have e:=Hn.out
        rw [if_pos (by rfl)] at e
        have hE32:E0≤65536:=by omega
        have e1:=hidIt (show ((E1:Nat):Int)=(E0:Int)+1 by rw [e];rfl)
        clear fin e Hn
        gi_wp2
        exact ⟨_,⟨rfl,by rw [hE1.out,e1.out];exact hb5.setCell 0 _,(hf.trans0 hf35).setCell (.inl (by simp)) _⟩,(hf35.weak).setCell (.inl (by simp)) _,fun y hy=>by have:=List.mem_singleton.1 hy;subst this;exact ⟨by simpa using l5,.inl List.mem_cons_self⟩⟩
  case done =>
   rintro D f W d1 d2 ⟨rfl,hb,hf⟩ hK
   have hDl:D<W.heap.size:=(Array.getElem?_eq_some_iff.1 hK).1
   have hi:=h3.fr hf (fun y hy=>by rw [List.mem_singleton.1 hy];exact hbn)
   have b0:=B03.fr hf (nb0 (by omega))
   have bw:=Bw3.fr hf (nb0 (by omega))
   have b2':=B23.fr hf (nb0 (by omega))
   have hFW:=hF3.trans hf (fun y hy hl=>by have:=List.mem_singleton.1 hy;omega)
   have hd:Fr [] W W.drew:=(Fr.refl _ _).drew
   have hbd:=hb.fr0 hd
   have b0d:=b0.fr0 hd
   have bwd:=bw.fr0 hd
   have b2d:=b2'.fr0 hd
   have hid:=hi.fr0 hd
   have hFd:=hFW.trans0 hd
   have kF:=iFree_calls W.drew hid
   have hKd:W.drew.heap[D]? = some (.deferred (some [])):=(hd.block D hDl (by simp)).trans hK
   obtain ⟨ne,hneq⟩:∃ne,Hid (needN true M a l (pcN M.z a l)=ne):=⟨_,hidIt rfl⟩
   rw [hneq.out] at hr' hbd
   clear hseq hb b0 bw b2' hi hf
   go_wp2_with fail
   refine wp_region_G (Fr [] W.drew) [(true,0),(true,1),(false,2),(true,3)] (by as_aux_lemma=>kernel_rfl) (by as_aux_lemma=>kernel_rfl) (Fr.refl _ _) ?_
   simp only [inOrder,jD,jE,jF,jG]
   refine wpG_val (.int .i64 (ne:Int)) (by first | rfl | go_simp) (fun X hX=>by have cc:=(hbd.fr0 hX).cell;go_simp) ?_
   simp only [Act.put,jA,jB,jC]
   refine wpG_val (.pointer (some ⟨ib,0,none⟩)) (by first | rfl | go_simp) (fun X hX=>by have cc:=(b0d.fr0 hX).cell;go_simp) ?_
   simp only [Act.put,jA,jB,jC]
   refine wpG_one fun K hK=>?_
   go_simp
   refine (kF).mono ?_
   rintro e w4 ⟨rfl,rfl⟩
   refine hK _ _ (Fr.refl _ _) ?_
   clear hK K
   iterate 1 (refine wpG_pure fun K hK=>?_;go_simp;refine hK _ ?_;clear hK K)
   refine wpG_end ?_
   have c0d:=b0d.cell
   by_cases hroom:freeN M.n<ne
   ·rw [if_pos hroom] at hr'
    have er:=hr'.out
    subst er
    clear hr' hneq
    generalize freeN M.n=fr at *
    go_wp2
    refine leave_mark rfl hKd (fun W' _=>results_tmp rfl _ _ _) fun W' hF=>⟨rfl,p,hid.fr hF (fun y hy=>?_),(Step.fr0 hFd).box hF (fun y hy=>by have:=List.mem_singleton.1 hy;have:=hF3.size;omega)⟩
    rw [List.mem_singleton.1 hy]
    exact h.new (by have:=hF3.size;omega)
   ·rw [if_neg hroom] at hr'
    have er:=hr'.out
    subst er
    have hneed:needN true M a l (pcN M.z a l)≤freeN M.n:=by rw [hneq.out];omega
    have hzl:(zBy (16*l)).length=16*l:=by simp [zBy]
    have hWI:∀k,k≤pcN M.z a l→WrI true M a l k (wrN true M a l (zBy (16*l)) (belF bel) k):=fun k hk=>wrN_inv hok hal hzl (belF_len bel) hneed k hk
    have hWR:∀k,k<pcN M.z a l→Hid (needK true (wrN true M a l (zBy (16*l)) (belF bel) k) (pcC M.z a k) (pcFr M.z a k) (pcTo M.z a l k)=true→0<freeN (wrN true M a l (zBy (16*l)) (belF bel) k).n):=fun k hk=>hidIt ((hWI k (by omega)).room hneed hk)
    clear hr' hneq hneed kF hzl
    generalize freeN M.n=fr at *
    go_wp2_with fail
    refine (iPieces_calls (ib:=ib) a l _).mono ?_
    rintro e w5 ⟨b4,b5,b6,rfl,hb4,hb5,hb6,hf5,g4,g5,g6⟩
    have h5:=hid.fr0 hf5
    have hseq2:=pieces_seq b4 b5 b6 a l w5 h5 hok.B (by omega) hb4 hb5 hb6
    have b05:=b0d.fr0 hf5
    have bw5:=bwd.fr0 hf5
    have b25:=b2d.fr0 hf5
    have hF5:=hFd.trans0 hf5
    have hst5:Step w p w5 p:=Step.fr0 hF5
    have hbel5:=hbel.step hst5
    have hK5:=(hf5.block D (by have:=hd.size;omega) (by simp)).trans hKd
    have hrb0:p.r w.heap.size=none:=h.new (Nat.le_refl _)
    have hrb2:p.r (w.heap.size+1)=none:=h.new (by omega)
    have hrD:p.r D=none:=h.new (by have:=hF3.size;omega)
    have hr6:p.r b6=none:=hid.new g6
    have hl6:=hb6.lt
    have hD5:D<w5.heap.size:=(Array.getElem?_eq_some_iff.1 hK5).1
    have hDw:w.heap.size≤D:=by have:=hF3.size;omega
    have hz5:w.heap.size≤w5.heap.size:=hF5.size
    clear c0d hbd b0d bwd b2d hid hFd hKd hb4 hb5 hb6 hf5 g4 g5 g6 h3 Bn3 B03 Bw3 B23 hK hFW hd h0 hF0 hW0 hwa'
    go_wp2_with fail
    refine wp_rangeFunc_seq rfl (enters_of Tryz.func174 (by kernel_rfl) rfl) hseq2 (Fr.refl _ _) (fun k f A=>∃p',(∀y,y∈f ↔ (p'.r y).isSome=true)∧ImgW A ib p' (wrN true M a l (zBy (16*l)) (belF bel) k)∧Step w5 p A p') (fun _ _ _=>False) (own p w5) ?st2 (fun _ _ _ _ _ h _ _=>h) (by simp) ?fp2 ⟨p,fun y=>⟨fun hy=>(mem_own.1 hy).2,fun hy=>mem_own.2 ⟨h5.low y hy,hy⟩⟩,h5,Step.refl _ _⟩ ?round2 ?done2 (fun _ _ _ _ _ _ h _=>h.elim)
    case fp2 =>
     intro y hy
     refine ⟨(mem_own.1 hy).1,fun e=>?_⟩
     have:=(mem_own.1 hy).2
     rw [e,hr6] at this
     cases this
    case st2 =>
     rintro k f A B M' ⟨p',hfm,hi,hs⟩ hF hM
     have hge:∀y∈M',w5.heap.size≤y∧y ∉ f:=fun y hy=>by rcases hM y hy with h1 | h1;cases h1;exact h1
     refine ⟨p',hfm,hi.fr hF (fun y hy=>?_),hs.box hF (fun y hy=>(hge y hy).1)⟩
     cases e:p'.r y with
     | none=>rfl
     | some q=>exact absurd ((hfm y).2 (by rw [e];rfl)) (hge y hy).2
    case round2 =>
     rintro lp k f A args q1 q2 q3 q4 hk ⟨p',hfm,hi,hs⟩ rfl
     refine ⟨rfl,?_⟩
     have hI:=hWI k (by omega)
     have hfct:=pc_facts (z_pos M) hk
     have hin:=hidIt (hI.inn hal hk)
     have hrm:=hWR k hk
     have hokR:=hidIt hI.ok
     have hRB:=hidIt hI.B
     have hRt:=hidIt hI.t
     have hzR:=hidIt hI.z
     have hzR':=hI.z
     have hBR:(wrN true M a l (zBy (16*l)) (belF bel) k).B≤3:=hI.ok.B
     have hft:pcFr M.z a k<pcTo M.z a l k:=hfct.1
     have htz:pcTo M.z a l k≤M.z:=hfct.2.1
     have hbz:((zBy (16*l)).drop (pcAt M.z a k)).take (pcTo M.z a l k - pcFr M.z a k)=zBy (pcTo M.z a l k - pcFr M.z a k):=by
      have:=hfct.2.2.2.1
      simp only [zBy,List.drop_replicate,List.take_replicate]
      congr 1
      omega
     obtain ⟨R1,hR1⟩:∃R1,Hid (wrN true M a l (zBy (16*l)) (belF bel) (k+1)=R1):=⟨_,hidIt rfl⟩
     have hstep:R1=wrK true (wrN true M a l (zBy (16*l)) (belF bel) k) (pcC M.z a k) (pcFr M.z a k) (pcTo M.z a l k) (zBy (pcTo M.z a l k - pcFr M.z a k)) (belF bel (wrN true M a l (zBy (16*l)) (belF bel) k)):=by
      rw [←hR1.out]
      show wrK true _ _ _ _ (((zBy (16*l)).drop (pcAt M.z a k)).take (pcTo M.z a l k - pcFr M.z a k)) _=_
      rw [hbz]
     have kW:=fun W (hW:ImgW W ib p' (wrN true M a l (zBy (16*l)) (belF bel) k)) (hb:Blk W w.heap.size [.pointer (some ⟨ib,0,none⟩)] 112)=>iWhole_calls (pcC M.z a k) (pcFr M.z a k) (pcTo M.z a l k) (pcAt M.z a k) w.heap.size W hb hW hBR (by omega) (by omega)
     have hW1:pcTo M.z a l k - pcFr M.z a k=(wrN true M a l (zBy (16*l)) (belF bel) k).z→Hid (R1=setI (wrN true M a l (zBy (16*l)) (belF bel) k) (pcC M.z a k) (2,0,false)):=fun e=>hidIt (by
      rw [hstep];unfold wrK;rw [if_pos ⟨rfl,e⟩])
     have hW2:¬pcTo M.z a l k - pcFr M.z a k=(wrN true M a l (zBy (16*l)) (belF bel) k).z→((wrN true M a l (zBy (16*l)) (belF bel) k).t.getD (pcC M.z a k) zS).1=2→Hid (R1=wrN true M a l (zBy (16*l)) (belF bel) k):=fun e e2=>hidIt (by
      rw [hstep];unfold wrK;rw [if_neg (fun hh=>e hh.2),if_pos ⟨rfl,e2⟩])
     have hW3:¬pcTo M.z a l k - pcFr M.z a k=(wrN true M a l (zBy (16*l)) (belF bel) k).z→¬((wrN true M a l (zBy (16*l)) (belF bel) k).t.getD (pcC M.z a k) zS).1=2→Hid (R1=putI (wrN true M a l (zBy (16*l)) (belF bel) k) (pcC M.z a k) (pcFr M.z a k) (zBy (pcTo M.z a l k - pcFr M.z a k)) (cluB (wrN true M a l (zBy (16*l)) (belF bel) k) (pcC M.z a k) bel)):=fun e e2=>hidIt (by
      rw [hstep];unfold wrK;rw [if_neg (fun hh=>e hh.2),if_neg (fun hh=>e2 hh.2)];rfl)
     have hrm3:¬pcTo M.z a l k - pcFr M.z a k=(wrN true M a l (zBy (16*l)) (belF bel) k).z→¬((wrN true M a l (zBy (16*l)) (belF bel) k).t.getD (pcC M.z a k) zS).1=2→Hid (needB ((wrN true M a l (zBy (16*l)) (belF bel) k).t.getD (pcC M.z a k) zS)=true→0<freeN (wrN true M a l (zBy (16*l)) (belF bel) k).n):=fun e e2=>hidIt fun hn=>hrm.out (by
      unfold needK;rw [decide_eq_false e,decide_eq_false e2,hn];rfl)
     have htR:pcTo M.z a l k≤(wrN true M a l (zBy (16*l)) (belF bel) k).z:=by rw [hzR.out];exact htz
     have hz128R:(wrN true M a l (zBy (16*l)) (belF bel) k).z≤128:=by rw [hzR.out];exact hz128
     unfold pieceV
     clear hseq2 hI hfct hWI hWR hstep hbz hrm hzR hzR' htz kW
     generalize wrN true M a l (zBy (16*l)) (belF bel) k=R at *
     generalize pcAt M.z a k=A0 at *
     generalize pcFr M.z a k=F0 at *
     generalize pcTo M.z a l k=T0 at *
     generalize pcC M.z a k=c0 at *
     have hfp:=(Fr.refl [] A).alloc (.cells #[.int .i64 (c0:Int),.int .i64 (F0:Int),.int .i64 (T0:Int),.int .i64 (A0:Int)] 201)
     have hA5:w5.heap.size≤A.heap.size:=hs.fr.size
     gi_wp2
     have Bp:=Blk.new A [.int .i64 (c0:Int),.int .i64 (F0:Int),.int .i64 (T0:Int),.int .i64 (A0:Int)] 201
     have hq4:=hfp.size
     refine ⟨⟨p',hfm,hi.fr0 hfp,hs.trans (Step.fr0 hfp)⟩,hfp,?_⟩
     clear hi hs hfm
     rintro A2 ⟨p',hfm,hi,hs⟩ hF2 hsz2
     have hlA2:A.heap.size<A2.heap.size:=by rw [hsz2];simp
     have Bp2:=Bp.fr hF2 (by simp;omega)
     have hrp:p'.r A.heap.size=none:=by
      cases e:p'.r A.heap.size with
      | none=>rfl
      | some q=>have:=q4 _ ((hfm A.heap.size).2 (by rw [e];rfl));omega
     obtain ⟨b02,r02⟩:=box_step b05 hrb0 hs
     obtain ⟨bw2,rw2⟩:=box_step bw5 hbw hs
     obtain ⟨b22,r22⟩:=box_step b25 hrb2 hs
     have hbel2:=hbel5.step hs
     have fin:∀A4 p6,ImgW A4 ib p6 R1→Step A2 p' A4 p6→∃f',(∃p',(∀y,y∈f' ↔ (p'.r y).isSome=true)∧ImgW A4 ib p' (wrN true M a l (zBy (16*l)) (belF bel) (k+1))∧Step w5 p A4 p')∧Fr f A2 A4∧∀x∈f',x<A4.heap.size∧(x∈f∨A2.heap.size≤x):=fun A4 p6 hi6 hst2=>by
      refine ⟨own p6 A4,⟨p6,fun y=>⟨fun hy=>(mem_own.1 hy).2,fun hy=>mem_own.2 ⟨hi6.low y hy,hy⟩⟩,by rw [hR1.out];exact hi6,hs.trans hst2⟩,hst2.fr.mono (fun y hy _=>(hfm y).2 (mem_own.1 hy).2),fun y hy=>?_⟩
      obtain ⟨o1,o2⟩:=mem_own.1 hy
      exact ⟨o1,(hst2.new y o2).imp (fun h=>(hfm y).2 h) id⟩
     replace fin:=hidIt fin
     have kW:=iWhole_calls c0 F0 T0 A0 w.heap.size A2 b02 hi hBR (by omega) (by omega)
     have kK:=fun W (hW:ImgW W ib p' R)=>iKind_calls (c0:Nat) W hW
     simp only [tget_nat] at kK
     have cw2:=bw2.cell
     have cp2:=Bp2.cell
     gi_wp2_with fail
     refine ⟨trivial,rfl,(CallsIn.inRound lp (callsIn_wide.2 kW)).mono ?_⟩
     rintro e A3 ⟨rfl,hf3⟩
     have hi3:=hi.fr0 hf3
     have b03:=b02.fr0 hf3
     have bp3:=Bp2.fr0 hf3
     have b23:=b22.fr0 hf3
     have c03:=b03.cell
     have cp3:=bp3.cell
     clear cw2 cp2 kW hi b02 Bp2 b22 bw2
     by_cases hw:T0 - F0=R.z
     ·have hR:=hW1 hw
      have kS:=iSet_calls c0 (2,0,false) A3 hi3 hin.out (by simp [rightS]) (hokR.out.liveS hin.out)
      unfold slotV at kS
      simp only at kS
      rw [decide_eq_true hw]
      rw [←hR.out] at kS
      clear hW1 hW2 hW3 hrm3 hR kK
      gi_wp2_with fail
      refine ⟨trivial,rfl,(CallsIn.inRound lp (callsIn_wide.2 kS)).mono ?_⟩
      rintro e A4 ⟨rfl,hi6,hs6⟩
      have hfin:=fin.out A4 p' hi6 ((Step.fr0 hf3).trans hs6)
      gi_wp2
      exact hfin
     ·rw [decide_eq_false hw]
      gi_wp2_with fail
      refine ⟨trivial,rfl,(CallsIn.inRound lp (callsIn_wide.2 (kK A3 hi3))).mono ?_⟩
      rintro e A4 ⟨rfl,hf4⟩
      have hi4:=hi3.fr0 hf4
      have b04:=b03.fr0 hf4
      have bp4:=bp3.fr0 hf4
      have b24:=b23.fr0 hf4
      have hf34:=hf3.trans0 hf4
      by_cases hkd:(R.t.getD c0 zS).1=2
      ·have hR:=hW2 hw hkd
       have hkn:((R.t.getD c0 zS).1 != 2)=false:=by rw [hkd];rfl
       have hfin:=fin.out A4 p' (by rw [hR.out];exact hi4) (Step.fr0 hf34)
       clear hW1 hW2 hW3 hrm3 hR kK hkd
       generalize (R.t.getD c0 zS).1=kd at *
       gi_wp2
       exact hfin
      ·have hR:=hW3 hw hkd
       have hrm:=hrm3 hw hkd
       have hkn:((R.t.getD c0 zS).1 != 2)=true:=by simpa using hkd
       clear hW1 hW2 hW3 hrm3 kK
       obtain ⟨kd,hkq⟩:∃kd,kd=(R.t.getD c0 zS).1:=⟨_,rfl⟩
       rw [←hkq] at hkn ⊢
       clear hkq hkd hw
       have hd:Fr [] A4 A4.drew:=(Fr.refl _ _).drew
       have hid:=hi4.fr0 hd
       have nown:∀y,p'.r y=none→y ∉ own p' A4.drew:=fun y hy hm=>by have:=(mem_own.1 hm).2;rw [hy] at this;cases this
       have n0:=nown _ r02
       have n2:=nown _ r22
       have np:=nown _ hrp
       have b0d:=b04.fr0 hd
       have b2d:=b24.fr0 hd
       have bpd:=bp4.fr0 hd
       have hw2:IntKind.i64.wrap ((T0:Int) - (F0:Int))=((T0 - F0:Nat):Int):=by rw [IntWalk.i64_in _ (by omega)];omega
       obtain ⟨dd,hdd⟩:∃dd,Hid (dd=T0 - F0):=⟨_,hidIt rfl⟩
       rw [←hdd.out] at hw2 hR
       obtain ⟨A5,hrun,hown5,hg5⟩:=makeY dd A4.drew (by have:=hdd.out;omega)
       have hf5:Fr [] A4.drew A5:=(Fr.of_grown hg5)
       have hi5:=hid.fr0 hf5
       have hzl:(zBy dd).length=dd:=by simp [zBy]
       have hslb:SlY A5 (.slice (some ⟨A4.drew.heap.size,0,none⟩) dd dd) (zBy dd):=SlF.of_owns (by rw [hzl];exact hown5)
       have hfarb:far p' (.slice (some ⟨A4.drew.heap.size,0,none⟩) dd dd):=fun y hy=>by
        have e:A4.drew.heap.size=y:=by simpa [Value.ownBlock] using hy
        rw [←e]
        exact hid.new (Nat.le_refl _)
       have hput:=iPut_calls c0 F0 T0 A0 _ _ fv bel A5 hi5 hokR.out hin.out (by rw [hzl];have:=hdd.out;omega) htR (by rw [hzl];have:=hdd.out;omega) hslb hfarb ((hbel2.fr0 (((hf34.trans0 hd)).trans0 hf5)).img hRB.out hRt.out) hrm.out
       rw [←hR.out,hfv] at hput
       clear hbel hbel2 hbel5 hslb hfarb hown5 hg5 hi4 hi3 b04 bp4 b24 b03 bp3 b23 c03 cp3 hrm hR
       gi_wp2_with fail
       refine wpIn_region_G (Fr (own p' A4.drew) A4.drew) [(true,0),(true,1),(true,2),(true,3),(true,4),(true,5),(true,6),(true,8),(false,7),(false,9)] (by as_aux_lemma=>kernel_rfl) (by as_aux_lemma=>kernel_rfl) (Fr.refl _ _) ?_
       simp only [inOrder,jD,jE,jF,jG]
       refine wpG_val (.pointer (some ⟨ib,0,none⟩)) (by first | rfl | go_simp) (fun X hX=>by have cc:=(b0d.fr hX n0).cell;go_simp) ?_
       simp only [Act.put,jA,jB,jC]
       refine wpG_val (.agg #[.int .i64 (c0:Int),.int .i64 (F0:Int),.int .i64 (T0:Int),.int .i64 (A0:Int)]) (by first | rfl | go_simp) (fun X hX=>by have cc:=(bpd.fr hX np).cell;go_simp) ?_
       simp only [Act.put,jA,jB,jC]
       iterate 1 (refine wpG_pure fun K hK=>?_;go_simp;refine hK _ ?_;clear hK K)
       refine wpG_val (.int .i64 (T0:Int)) (by first | rfl | go_simp) (fun X hX=>by have cc:=(bpd.fr hX np).cell;go_simp) ?_
       simp only [Act.put,jA,jB,jC]
       iterate 1 (refine wpG_pure fun K hK=>?_;go_simp;refine hK _ ?_;clear hK K)
       refine wpG_val (.int .i64 (F0:Int)) (by first | rfl | go_simp) (fun X hX=>by have cc:=(bpd.fr hX np).cell;go_simp) ?_
       simp only [Act.put,jA,jB,jC]
       iterate 1 (refine wpG_pure fun K hK=>?_;go_simp;refine hK _ ?_;clear hK K)
       refine wpG_val (fv) (by first | rfl | go_simp) (fun X hX=>by have cc:=(b2d.fr hX n2).cell;go_simp) ?_
       simp only [Act.put,jA,jB,jC]
       refine wpG_one fun K hK=>?_
       go_simp
       refine hK _ _ hf5.weak ?_
       clear hK K
       refine wpG_one fun K hK=>?_
       go_simp
       refine (hput).mono ?_
       rintro e A6 ⟨p6,rfl,hi6,hs6⟩
       refine hK _ _ (((Step.fr0 (p:=p') hf5).trans hs6).fr) ?_
       clear hK K
       refine wpG_end ?_
       have hfin:=fin.out A6 p6 hi6 ((Step.fr0 (((hf34.trans0 hd)).trans0 hf5)).trans hs6)
       clear hid b0d b2d bpd hi5 hput fin hrun
       gi_wp2
       exact hfin
    case done2 =>
     rintro D2 f W2 d3 d4 ⟨p',hfm,hi,hs⟩ hK2
     have hDf:D ∉ own p w5:=fun hm=>by have:=(mem_own.1 hm).2;rw [hrD] at this;cases this
     have hKW:=(hs.fr.block D hD5 hDf).trans hK5
     have hD2:D≠D2:=by omega
     have hrD2:p'.r D2=none:=by
      cases e:p'.r D2 with
      | none=>rfl
      | some q=>exact absurd ((hfm D2).2 (by rw [e];rfl)) d4
     have hrD':p'.r D=none:=by
      cases e:p'.r D with
      | none=>rfl
      | some q =>
        rcases hs.new D (by rw [e];rfl) with h1 | h1
        ·rw [hrD] at h1;cases h1
        ·omega
     have hmk:Marks w.heap.size [D2,D] W2:=((Marks.nil _ _).cons hKW hDw (by simp)).cons hK2 (by omega) (by simpa using hD2.symm)
     go_wp2
     refine leave_marks (Ds:=[D2,D]) rfl hmk (fun W' _=>results_tmp rfl _ _ _) fun W' hF=>⟨rfl,p',hi.fr hF (fun y hy=>?_),(hst5.trans hs).box hF (fun y hy=>hmk.ge y hy)⟩
     rcases List.mem_cons.1 hy with rfl | hy
     ·exact hrD2
     ·rw [List.mem_singleton.1 hy];exact hrD'
end
end Go.Proofs.YtffnihooekbcnaaGreat
namespace Go.Proofs.YtffnihooekbcnaaGreat
open Go.RowKit
def visC (M:Img) (c:Nat) (u:By):By:=if (M.t.getD c zS).1=0 then u else conC M c
def visX (M:Img) (U:Nat→By) (y:Nat):UInt8:=(visC M (y / M.z) (U (y / M.z))).getD (y % M.z) 0
theorem visC_len {M:Img} (h:OkJ M) {c:Nat} {u:By} (hu:u.length=M.z):(visC M c u).length=M.z:=by
 unfold visC
 split
 ·exact hu
 ·exact h.conc c
theorem clu_vis {M:Img} {c:Nat} {bel:List By} (hu:(bel.getD c []).length=M.z):cluB M c bel=visC M c (bel.getD c []):=by
 unfold cluB visC
 by_cases h0:(M.t.getD c zS).1=0
 ·rw [if_neg (by rw [h0];decide),if_pos ⟨h0,hu⟩,if_pos h0]
 ·rw [if_neg h0]
  unfold conC conS
  split
  ·rfl
  ·rw [if_neg (fun h=>h0 h.1)]
theorem visX_at {M:Img} {U:Nat→By} {c r:Nat} (hr:r<M.z):visX M U (c*M.z+r)=(visC M c (U c)).getD r 0:=by
 unfold visX
 rw [Nat.add_comm,Nat.add_mul_div_right _ _ (z_pos M),Nat.div_eq_of_lt hr,Nat.zero_add,Nat.add_mul_mod_self_right,Nat.mod_eq_of_lt hr]
section
variable {zero:Bool} {M:Img} (h:OkI M) {c f t:Nat} {b:By} {x:Nat→By} (hc:c<M.t.length) (hb:f+b.length=t) (ht:t≤M.z) (hx:(x c).length=M.z) (hfree:needK zero M c f t=true→0<freeN M.n)
include h hc hb ht hx hfree
theorem wr_vis {u:By} (hu:u.length=M.z) (hx0:x c=visC M c u) (hz:zero=true→b=zBy b.length) (c':Nat) (u':By):visC (wrK zero M c f t b x) c' u'=if c'=c then spl (visC M c u) f b else visC M c' u':=by
 have hK:=wr_keep (zero:=zero) (M:=M) (c:=c) (f:=f) (t:=t) (b:=b) (x:=x)
 by_cases e:c'=c
 case neg =>
  rw [if_neg e]
  unfold visC
  rw [hK.2.2.2.2 c' e]
  split
  ·rfl
  ·unfold wrK
   split
   ·rw [set_con h hc (by simp [rightS]) (by simp),if_neg e]
   ·split
    ·rfl
    ·rename_i h1 h2
     rw [put_con h hc hx (need_free hfree h1 h2),if_neg e]
 subst e
 rw [if_pos rfl]
 have hspz:∀v:By,v.length=M.z→(∀i,v.getD i 0=0)→zero=true→spl v f b=zBy M.z:=fun v hv h0 hze=>by
  have hl:f+b.length≤v.length:=by omega
  refine List.ext_getElem (by rw [spl_len hl,hv];simp [zBy]) fun i h1 h2=>?_
  have h3:=spl_getD hl i
  rw [List.getD_eq_getElem?_getD,List.getElem?_eq_getElem h1] at h3
  simp only [Option.getD_some] at h3
  rw [h3]
  have hbz:∀j,b.getD j 0=0:=fun j=>by
   rw [hz hze]
   simp [zBy,List.getD_eq_getElem?_getD,List.getElem?_replicate]
   split <;> rfl
  rw [hbz,h0]
  simp [zBy]
 unfold wrK
 by_cases h1:zero=true∧t - f=M.z
 ·rw [if_pos h1]
  have hs:=set_len (M:=M) (c:=c') (s:=(2,0,false))
  unfold visC
  rw [hs.2.2.2.2,getD_setS hc,if_pos rfl,if_neg (by decide),set_con h hc (by simp [rightS]) (by simp),if_pos rfl]
  have hf0:f=0:=by omega
  have hv:=visC_len h.toOkJ (c:=c') hu
  unfold visC at hv
  symm
  unfold spl
  rw [hf0,List.take_zero,List.nil_append,List.drop_eq_nil_of_le (by omega),List.append_nil,hz h1.1]
  congr 1
  omega
 ·rw [if_neg h1]
  by_cases h2:zero=true∧(M.t.getD c' zS).1=2
  ·rw [if_pos h2]
   have hv:visC M c' u=zBy M.z:=by
    unfold visC conC conS
    rw [if_neg (by rw [h2.2];decide),if_neg (by rw [h2.2];decide)]
   have hv':visC M c' u'=zBy M.z:=by
    unfold visC conC conS
    rw [if_neg (by rw [h2.2];decide),if_neg (by rw [h2.2];decide)]
   rw [hv',hv]
   refine (hspz _ (by simp [zBy]) (fun i=>?_) h2.1).symm
   simp [zBy,List.getD_eq_getElem?_getD,List.getElem?_replicate]
   split <;> rfl
  ·rw [if_neg h2]
   have hkind:((putI M c' f b (x c')).t.getD c' zS).1=1:=by
    rw [(put_keep (M:=M) (c:=c') (f:=f) (b:=b) (x:=x c')).2.2.2]
    split
    ·rw [getD_setS hc,if_pos rfl]
    ·rename_i hn
     exact (own_one h hc hn).1
   unfold visC at hx0 ⊢
   rw [hkind,if_neg (by decide),put_con h hc hx (need_free hfree h1 h2),if_pos rfl]
   congr 1
   split
   ·exact hx0
   ·rename_i hn
    rw [if_neg (by rw [(own_one h hc hn).1];decide)]
theorem wr_visX {U:Nat→By} (hu:(U c).length=M.z) (hx0:x c=visC M c (U c)) (hz:zero=true→b=zBy b.length) (y:Nat):visX (wrK zero M c f t b x) U y=if c*M.z+f≤y∧y<c*M.z+t then b.getD (y - (c*M.z+f)) 0 else visX M U y:=by
 have hzz:(wrK zero M c f t b x).z=M.z:=by unfold Img.z;rw [wr_keep.1]
 have hzp:=z_pos M
 obtain ⟨q,r,hq,hr⟩:∃q r,y=q*M.z+r∧r<M.z:=⟨y / M.z,y % M.z,by rw [Nat.mul_comm];exact (Nat.div_add_mod y M.z).symm,Nat.mod_lt _ hzp⟩
 subst hq
 rw [visX_at hr]
 have hcx:=visX_at (M:=wrK zero M c f t b x) (U:=U) (c:=q) (r:=r) (by rw [hzz];exact hr)
 rw [hzz] at hcx
 rw [hcx,wr_vis h hc hb ht hx hfree hu hx0 hz]
 have hin:(c*M.z+f≤q*M.z+r∧q*M.z+r<c*M.z+t) ↔ q=c∧f≤r∧r<t:=by
  constructor
  ·rintro ⟨h1,h2⟩
   have e:q=c:=by
    rcases Nat.lt_trichotomy q c with h3 | h3 | h3
    ·have:(q+1)*M.z≤c*M.z:=Nat.mul_le_mul_right _ h3
     rw [Nat.add_mul] at this;omega
    ·exact h3
    ·have:(c+1)*M.z≤q*M.z:=Nat.mul_le_mul_right _ h3
     rw [Nat.add_mul] at this;omega
   subst e
   exact ⟨rfl,by omega,by omega⟩
  ·rintro ⟨rfl,h1,h2⟩
   exact ⟨by omega,by omega⟩
 by_cases e:q=c
 ·subst e
  rw [if_pos rfl,spl_getD (by rw [visC_len h.toOkJ hu];omega),hb]
  by_cases h3:f≤r∧r<t
  ·rw [if_pos h3,if_pos (hin.2 ⟨rfl,h3⟩)]
   congr 1
   omega
  ·rw [if_neg h3,if_neg (fun hh=>h3 (hin.1 hh).2)]
 ·rw [if_neg e,if_neg (fun hh=>e (hin.1 hh).1)]
end
section
variable {zero:Bool} {M:Img} {a l:Nat} {b:By} {x:Img→Nat→By} (h:OkI M) (hal:a+l≤M.t.length*2 ^ M.B) (hb:b.length=16*l) (hxl:∀(R:Img) c,OkJ R→(x R c).length=R.z) (hneed:needN zero M a l (pcN M.z a l)≤freeN M.n)
include h hal hb hxl hneed
theorem wrN_visX {U:Nat→By} (hu:∀c,c<M.t.length→(U c).length=M.z) (hx:∀R c,R.B=M.B→R.t.length=M.t.length→c<M.t.length→x R c=visC R c (U c)) (hz:zero=true→b=zBy b.length):∀k,k≤pcN M.z a l→∀y,visX (wrN zero M a l b x k) U y=if 16*a≤y∧y<16*a+pcE M.z a l k then b.getD (y - 16*a) 0 else visX M U y
 | 0,_,y=>by
   rw [if_neg (by rw [pcE_zero];omega)]
   rfl
 | k+1,hk,y=>by
   have ih:=wrN_visX hu hx hz k (by omega) y
   have hI:=wrN_inv h hal hb hxl hneed k (by omega)
   have h1:=pc_facts (z_pos M) (l:=l) (a:=a) (k:=k) (by omega)
   have h2:=pcE_at (z_pos M) (l:=l) (a:=a) (k:=k) (by omega)
   have hs:=pc_slice (M:=M) (a:=a) (l:=l) (k:=k) hb (by omega)
   have ht:pcTo M.z a l k≤(wrN zero M a l b x k).z:=by rw [hI.z];exact h1.2.1
   have hzb:zero=true→((b.drop (pcAt M.z a k)).take (pcTo M.z a l k - pcFr M.z a k))=zBy ((b.drop (pcAt M.z a k)).take (pcTo M.z a l k - pcFr M.z a k)).length:=fun e=>by
    have hb0:=hz e
    rw [hb0]
    simp [zBy]
   have hin:=hI.inn hal (by omega)
   have hin':pcC M.z a k<M.t.length:=by rw [←hI.t];exact hin
   show visX (wrK zero _ _ _ _ _ _) U y=_
   rw [wr_visX hI.ok hin hs ht (hxl _ _ hI.ok.toOkJ) (hI.room hneed (by omega)) (by rw [hI.z];exact hu _ hin') (hx _ _ hI.B hI.t hin') hzb,hI.z]
   by_cases e:pcC M.z a k*M.z+pcFr M.z a k≤y∧y<pcC M.z a k*M.z+pcTo M.z a l k
   ·rw [if_pos e,if_pos (by omega)]
    simp only [List.getD_eq_getElem?_getD,List.getElem?_take,List.getElem?_drop]
    rw [if_pos (by omega)]
    congr 2
    omega
   ·rw [if_neg e,ih]
    by_cases e2:16*a≤y∧y<16*a+pcE M.z a l k
    ·rw [if_pos e2,if_pos (by omega)]
    ·rw [if_neg e2,if_neg (by omega)]
theorem wrN_out:∀k,k≤pcN M.z a l→∀c,(∀j,j<k→c≠pcC M.z a j)→(wrN zero M a l b x k).t.getD c zS=M.t.getD c zS∧∀u,visC (wrN zero M a l b x k) c u=visC M c u
 | 0,_,c,_=>⟨rfl,fun _=>rfl⟩
 | k+1,hk,c,hc=>by
   have ih:=wrN_out k (by omega) c fun j hj=>hc j (by omega)
   have hI:=wrN_inv h hal hb hxl hneed k (by omega)
   have hne:=hc k (by omega)
   have hK:=wr_keep (zero:=zero) (M:=wrN zero M a l b x k) (c:=pcC M.z a k) (f:=pcFr M.z a k) (t:=pcTo M.z a l k) (b:=(b.drop (pcAt M.z a k)).take (pcTo M.z a l k - pcFr M.z a k)) (x:=x (wrN zero M a l b x k))
   have h1:(wrN zero M a l b x (k+1)).t.getD c zS=M.t.getD c zS:=by
    show (wrK zero _ _ _ _ _ _).t.getD c zS=_
    rw [hK.2.2.2.2 c hne]
    exact ih.1
   refine ⟨h1,fun u=>?_⟩
   rw [←ih.2 u]
   unfold visC
   rw [h1,ih.1]
   split
   ·rfl
   ·show conC (wrK zero _ _ _ _ _ _) c=_
    unfold wrK
    split
    ·rw [set_con hI.ok (hI.inn hal (by omega)) (by simp [rightS]) (by simp),if_neg hne]
    ·split
     ·rfl
     ·rename_i h1 h2
      rw [put_con hI.ok (hI.inn hal (by omega)) (hxl _ _ hI.ok.toOkJ) (need_free (hI.room hneed (by omega)) h1 h2),if_neg hne]
end
structure Wrote (M R:Img) (U:Nat→By) (a n:Nat) (b:By):Prop where
 ok:OkI R
 B:R.B=M.B
 t:R.t.length=M.t.length
 room:R.n.length=M.n.length
 s:R.s=M.s
 vis:∀y,visX R U y=if 16*a≤y∧y<16*(a+n) then b.getD (y - 16*a) 0 else visX M U y
 out:∀c,((c+1)*2 ^ M.B≤a∨a+n≤c*2 ^ M.B)→R.t.getD c zS=M.t.getD c zS∧∀u,visC R c u=visC M c u
theorem wrote_of {zero:Bool} {M:Img} {a l:Nat} {b:By} {bel:List By} (h:OkI M) (hal:a+l≤M.t.length*2 ^ M.B) (hb:b.length=16*l) (hneed:needN zero M a l (pcN M.z a l)≤freeN M.n) (hu:∀c,c<M.t.length→(bel.getD c []).length=M.z) (hz:zero=true→b=zBy b.length) :
 Wrote M (writeI zero M a l b (belF bel)) (fun c=>bel.getD c []) a l b:=by
 have hI:=wrN_inv h hal hb (belF_len bel) hneed _ (Nat.le_refl _)
 refine ⟨hI.ok,hI.B,hI.t,hI.n,hI.s,fun y=>?_,fun c hc=>?_⟩
 ·have:=wrN_visX h hal hb (belF_len bel) hneed (U:=fun c=>bel.getD c []) hu (fun R c hB _ hc=>clu_vis (by unfold Img.z;rw [hB];exact hu c hc)) hz _ (Nat.le_refl _) y
  rw [pcE_last (z_pos M)] at this
  rw [show 16*(a+l)=16*a+16*l by omega]
  exact this
 ·refine wrN_out h hal hb (belF_len bel) hneed _ (Nat.le_refl _) c fun j hj e=>?_
  have h1:=pc_facts (z_pos M) hj
  have h2:=pcE_at (z_pos M) hj
  subst e
  have hzd:M.z=16*2 ^ M.B:=rfl
  have e1:pcC M.z a j*M.z=16*(pcC M.z a j*2 ^ M.B):=by rw [hzd,Nat.mul_left_comm]
  have e2:(pcC M.z a j+1)*2 ^ M.B=pcC M.z a j*2 ^ M.B+2 ^ M.B:=by rw [Nat.add_mul,Nat.one_mul]
  rcases hc with hc | hc
  ·rw [e2] at hc
   omega
  ·omega
theorem write_vis {M R:Img} {x:Int} {b:By} {bel:List By} (h:OkI M) (hu:∀c,c<M.t.length→(bel.getD c []).length=M.z) (he:writeE M x b bel=(0,R)) :
 ∃a n:Nat,x=a∧b.length=16*n∧a+n≤M.t.length*2 ^ M.B∧Wrote M R (fun c=>bel.getD c []) a n b:=by
 unfold writeE at he
 split at he
 ·cases he
 ·rename_i h16
  split at he
  ·rename_i hi
   have:=congrArg Prod.fst he
   exact absurd this hi
  ·rename_i hi
   split at he
   ·cases he
   ·rename_i hfree
    obtain ⟨a,n,rfl,hn,hal⟩:=inside_ok (M:=M) (x:=x) (l:=((b.length / 16:Nat):Int)) (by omega)
    have hn':b.length / 16=n:=by omega
    rw [Int.toNat_natCast,hn'] at hfree he
    have hb:b.length=16*n:=by omega
    have hR:writeI false M a n b (belF bel)=R:=congrArg Prod.snd he
    refine ⟨a,n,rfl,hb,hal,?_⟩
    rw [←hR]
    exact wrote_of h hal hb (by omega) hu (fun e=>by cases e)
theorem zero_vis {M R:Img} {x l:Int} {bel:List By} (h:OkI M) (hu:∀c,c<M.t.length→(bel.getD c []).length=M.z) (he:zeroE M x l bel=(0,R)) :
 ∃a n:Nat,x=a∧l=n∧a+n≤M.t.length*2 ^ M.B∧Wrote M R (fun c=>bel.getD c []) a n (zBy (16*n)):=by
 unfold zeroE at he
 split at he
 ·rename_i hi
  exact absurd (congrArg Prod.fst he) hi
 ·rename_i hi
  obtain ⟨a,n,rfl,rfl,hal⟩:=inside_ok (Classical.not_not.1 hi)
  rw [Int.toNat_natCast,Int.toNat_natCast] at he
  split at he
  ·cases he
  ·rename_i hf
   have hR:writeI true M a n (zBy (16*n)) (belF bel)=R:=congrArg Prod.snd he
   have hb:(zBy (16*n)).length=16*n:=by simp [zBy]
   refine ⟨a,n,rfl,rfl,hal,?_⟩
   rw [←hR]
   exact wrote_of h hal hb (by omega) hu (fun _=>by rw [hb])
end Go.Proofs.YtffnihooekbcnaaGreat
namespace Go.Proofs.YtffnihooekbcnaaGreat
open Go.RowKit Go.Maps
structure Dk where
 nm:By
 bk:By
 M:Img
def fD (L:List Dk) (s:By):Option Dk:=nlFind Dk.nm L s
def IsPath (L:List Dk):By→List By→Prop
 | s,[]=>∃d,fD L s=some d∧d.bk=[]
 | s,b :: r=>(∃d,fD L s=some d∧d.bk=b∧b≠[])∧IsPath L b r
theorem IsPath.uniq {L:List Dk}:∀{p q:List By} {s:By},IsPath L s p→IsPath L s q→p=q
 | [],[],_,_,_=>rfl
 | [],b :: r,s,⟨d,h1,h2⟩,⟨⟨d',h3,h4,h5⟩,_⟩=>by rw [h1] at h3;cases h3;rw [h2] at h4;exact absurd h4.symm h5
 | b :: r,[],s,⟨⟨d',h3,h4,h5⟩,_⟩,⟨d,h1,h2⟩=>by rw [h1] at h3;cases h3;rw [h2] at h4;exact absurd h4.symm h5
 | b :: r,b' :: r',s,⟨⟨d,h1,h2,_⟩,h3⟩,⟨⟨d',h4,h5,_⟩,h6⟩=>by
   rw [h1] at h4
   cases h4
   rw [h2] at h5
   subst h5
   rw [IsPath.uniq h3 h6]
theorem IsPath.find {L:List Dk} {s:By} {p:List By} (h:IsPath L s p):∃d,fD L s=some d∧d.bk=p.headD []:=by
 cases p with
 | nil=>obtain ⟨d,h1,h2⟩:=h;exact ⟨d,h1,h2⟩
 | cons b r=>obtain ⟨⟨d,h1,h2,_⟩,_⟩:=h;exact ⟨d,h1,h2⟩
theorem IsPath.suf {L:List Dk} {s t:By}:∀{p:List By},IsPath L s p→t∈p→∃q,IsPath L t q∧q.length<p.length
 | b :: r,⟨_,h⟩,ht=>by
   rcases List.mem_cons.1 ht with rfl | ht
   ·exact ⟨r,h,by simp⟩
   ·obtain ⟨q,h1,h2⟩:=IsPath.suf h ht
    exact ⟨q,h1,by simp;omega⟩
theorem IsPath.self {L:List Dk} {s:By} {p:List By} (h:IsPath L s p):s ∉ p:=fun hm=>by
 obtain ⟨q,h1,h2⟩:=h.suf hm
 rw [h.uniq h1] at h2
 exact Nat.lt_irrefl _ h2
theorem IsPath.mem {L:List Dk} {s t:By} {p:List By} (h:IsPath L s p) (ht:t∈s :: p):∃d,fD L t=some d:=by
 rcases List.mem_cons.1 ht with rfl | ht
 ·obtain ⟨d,h1,_⟩:=h.find;exact ⟨d,h1⟩
 ·obtain ⟨q,h1,_⟩:=h.suf ht
  obtain ⟨d,h2,_⟩:=h1.find
  exact ⟨d,h2⟩
theorem IsPath.same {L L':List Dk} (hL:∀t d,fD L t=some d→∃d',fD L' t=some d'∧d'.bk=d.bk):∀{p:List By} {s:By},IsPath L s p→IsPath L' s p
 | [],s,⟨d,h1,h2⟩=>by obtain ⟨d',h3,h4⟩:=hL _ _ h1;exact ⟨d',h3,h4.trans h2⟩
 | b :: r,s,⟨⟨d,h1,h2,h3⟩,h⟩=>by obtain ⟨d',h4,h5⟩:=hL _ _ h1;exact ⟨⟨d',h4,h5.trans h2,h3⟩,IsPath.same hL h⟩
def seenC (L:List Dk) (z:Nat):List By→Nat→By
 | [],_=>zBy z
 | s :: r,k=>match fD L s with | some d=>visC d.M k (seenC L z r k) | none=>seenC L z r k
theorem seenC_some {L:List Dk} {z:Nat} {s:By} {r:List By} {k:Nat} {d:Dk} (h:fD L s=some d):seenC L z (s :: r) k=visC d.M k (seenC L z r k):=by
 simp only [seenC,h]
theorem seenC_len {L:List Dk} {z:Nat} (hL:∀d∈L,OkJ d.M∧d.M.z=z):∀(p:List By) (k:Nat),(seenC L z p k).length=z
 | [],k=>by simp [seenC,zBy]
 | s :: r,k=>by
   have ih:=seenC_len hL r k
   simp only [seenC]
   split
   ·rename_i d hd
    have h1:=hL d (nlFind_mem hd).1
    rw [visC_len h1.1 (ih.trans h1.2.symm),h1.2]
   ·exact ih
theorem seenC_same {L L':List Dk} {z:Nat} {k:Nat}:∀{p:List By},(∀t∈p,(fD L' t).map (·.M)=(fD L t).map (·.M))→seenC L' z p k=seenC L z p k
 | [],_=>rfl
 | s :: r,h=>by
   have ih:=seenC_same (L:=L) (L':=L') (z:=z) (k:=k) (p:=r) fun t ht=>h t (List.mem_cons_of_mem _ ht)
   have h1:=h s List.mem_cons_self
   simp only [seenC,ih]
   cases e:fD L s with
   | none=>rw [e] at h1;cases e':fD L' s with
     | none=>rfl
     | some d=>rw [e'] at h1;cases h1
   | some d=>rw [e] at h1;cases e':fD L' s with
     | none=>rw [e'] at h1;cases h1
     | some d'=>rw [e'] at h1;simp only [Option.map_some,Option.some.injEq] at h1;simp only [h1]
structure OkC (bits n room:Nat) (L:List Dk):Prop where
 rising:NlRising Dk.nm L
 img:∀d∈L,OkI d.M∧d.M.B=bits∧d.M.t.length=n∧d.M.n.length=room∧d.M.s=[]
 names:∀d∈L,okName d.nm=true
 path:∀d∈L,∃p,IsPath L d.nm p∧p.length≤8
 few:L.length≤16
def setM (L:List Dk) (s:By) (M:Img):List Dk:=nlMod Dk.nm L s fun d=>{ d with M:=M }
theorem fD_setM (L:List Dk) (s:By) (M:Img) (t:By):fD (setM L s M) t=(fD L t).map fun d=>if t=s then { d with M:=M } else d:=nlFind_mod (nm:=Dk.nm) (f:=fun d=>{ d with M:=M }) (fun _=>rfl) t
theorem path_setM {L:List Dk} {s t:By} {M:Img} {p:List By} (h:IsPath L t p):IsPath (setM L s M) t p:=h.same fun u d hd=>by
 rw [fD_setM,hd]
 refine ⟨_,rfl,?_⟩
 split <;> rfl
theorem setM_ok {bits n room:Nat} {L:List Dk} (h:OkC bits n room L) {s:By} {M:Img} (h1:OkI M) (h2:M.B=bits) (h3:M.t.length=n) (h4:M.n.length=room) (h5:M.s=[]):OkC bits n room (setM L s M):=by
 refine ⟨nlMod_rising h.rising fun _=>rfl,fun d hd=>?_,fun d hd=>?_,fun d hd=>?_,by unfold setM;rw [nlMod_len];exact h.few⟩
 ·obtain ⟨e,he,rfl⟩:=mem_nlMod.1 hd
  split
  ·exact ⟨h1,h2,h3,h4,h5⟩
  ·exact h.img e he
 ·obtain ⟨e,he,rfl⟩:=mem_nlMod.1 hd
  have:=h.names e he
  split <;> exact this
 ·obtain ⟨e,he,rfl⟩:=mem_nlMod.1 hd
  obtain ⟨p,hp,hl⟩:=h.path e he
  refine ⟨p,?_,hl⟩
  have:(if e.nm=s then { e with M:=M } else e).nm=e.nm:=by split <;> rfl
  rw [this]
  exact path_setM hp
theorem seen_setM {L:List Dk} {s:By} {M:Img} {z k:Nat} {p:List By} (h:s ∉ p):seenC (setM L s M) z p k=seenC L z p k:=seenC_same fun t ht=>by
 rw [fD_setM]
 cases fD L t with
 | none=>rfl
 | some d=>simp only [Option.map_some];rw [if_neg (fun e=>h (by rw [←e];exact ht))]
theorem seen_setM_top {L:List Dk} {s:By} {M:Img} {z k:Nat} {p:List By} (h:IsPath L s p):seenC (setM L s M) z (s :: p) k=visC M k (seenC L z p k):=by
 obtain ⟨d,hd,_⟩:=h.find
 have:fD (setM L s M) s=some { d with M:=M }:=by rw [fD_setM,hd];simp
 rw [seenC_some this,seen_setM h.self]
end Go.Proofs.YtffnihooekbcnaaGreat
