/-
  Package image: put.
-/
import Derived.Test.YtffnihooekbcnaaGreatG08
import Derived.Laws.CopyOwn
set_option maxRecDepth 100000
set_option maxHeartbeats 6400000
namespace Go.Proofs.YtffnihooekbcnaaGreat
open Go.RowKit Go.Maps
attribute [local go_sem] mapAt_alloc mapAt_setCell mapAt_drew mapAt_drewN cells_str store_str
theorem sizeY:(Tryz.prog.info? 5).map (·.size)=some 1:=by kernel_rfl
theorem fr_setRow {w:World} (g:Nat) (cs:Array Value):Fr [g] w (w.setRow g cs):=⟨rfl,rfl,rfl,by simp [World.setRow],fun k _ hn=>setRow_other w g k cs (fun h=>hn (by rw [h];simp))⟩
theorem wpList_copy {P:Program} {ops:Array Oper} {Q:Exit→Act→World→Prop} {a:Act} {w:World} {rest:List Oper} {o:Oper} (hgd:o.guard=none) (d s:Operand) (dT sT:TypeId)
 (ho:o.op=.call { callee:=.builtin .copy,args:=#[d,s],argTypes:=#[dT,sT] }) (elem:TypeId) (hu:P.underlying dT=some (.slice elem)) (hsz:(P.info? elem).map (·.size)=some 1)
 (g off dLen dCap:Nat) (ad:Addr) (sLen sCap:Nat) (hd:a.eval d=.slice (some ⟨g,off,none⟩) dLen dCap) (hs:a.eval s=.slice (some ad) sLen sCap)
 (cur:Array Value) (t:TypeId) (hg:w.heap[g]? = some (.cells cur t (0,0))) (cs:List Value) (hn:cs.length=Nat.min sLen dLen)
 (hsrc:∀j v,cs[j]? = some v→w.cell? (ad.add j)=some v) (hfit:off+cs.length≤cur.size) (h1:∀v∈cs,v.oneCell'=true)
 (h:wpList P ops Q rest (a.put o.dst (goInt cs.length)) (w.setRow g (cur.toList.take off++cs++cur.toList.drop (off+cs.length)).toArray)):wpList P ops Q (o :: rest) a w:=by
 have hrun:=run_copy_row (P:=P) w dT sT o.type elem g off dLen dCap ad sLen sCap cur t cs hu hsz hg hn hsrc hfit h1
 exact wpList_run hgd (by simp only [execOp,ho,resolve,invoke,builtin,Sem.run_bind,Sem.run_pure,Result.andThen_ok,List.map_toArray,List.map_cons,List.map_nil,hd,hs,hrun]) h
theorem spl_flat (x:By) (f:Nat) (b:By):(spl x f b).flatMap byC=(x.flatMap byC).take f++b.flatMap byC++(x.flatMap byC).drop (f+b.length):=by
 unfold spl
 rw [List.flatMap_append,List.flatMap_append,flat_by,flat_by,flat_by,flat_by,List.map_take,List.map_drop]
theorem owns_copy {w:World} {base g n cap:Nat} {e:TypeId} {xs cs:List Value} {off:Nat} (h:w.ownsRow base e 1 (.slice (some ⟨g,0,none⟩) n cap) n xs) (hl:off+cs.length≤n) :
 ∃cur:Array Value,w.heap[g]? = some (.cells cur e (0,0))∧off+cs.length≤cur.size ∧
  (w.setRow g (cur.toList.take off++cs++cur.toList.drop (off+cs.length)).toArray).ownsRow base e 1 (.slice (some ⟨g,0,none⟩) n cap) n (xs.take off++cs++xs.drop (off+cs.length)):=by
 rcases h.2 with ⟨h1,_⟩ | ⟨g',cap',cur,hv,hb,hg,hn,hm,hs,ht⟩
 ·cases h1
 ·cases hv
  have hs':cur.size=cap:=by simpa using hs
  have ht':cur.toList.take n=xs:=by simpa using ht
  have hxl:xs.length=n:=by have:=h.1;simpa using this
  refine ⟨cur,hg,by omega,?_,.inr ⟨g,cap,(cur.toList.take off++cs++cur.toList.drop (off+cs.length)).toArray,rfl,hb,?_,hn,hm,?_,?_⟩⟩
  ·simp
   omega
  ·rw [setRow_heap w _ _ _ _ _ hg]
  ·simp
   omega
  ·rw [←ht']
   have hA:cur.toList.length=cap:=by simpa using hs'
   simp only [Nat.mul_one]
   generalize cur.toList=A at *
   have hX:(A.take off++cs).length=off+cs.length:=by rw [List.length_append,List.length_take];omega
   rw [List.take_append,List.take_of_length_le (by omega),hX,List.take_take,List.drop_take,show min off n=off by omega]
theorem fieldHost (p q r:Value) (w:World):(Instr.field 216 (.agg #[p,q,r]) 1).run Tryz.prog w=.ok q w:=by kernel_rfl
section
variable {ib:Nat} {p:Pl} {M:Img}
def opPost (w:World) (ib:Nat) (p:Pl) (M':Img) (e:Ending) (w':World):Prop:=∃p',e=.returned (.tuple #[])∧ImgW w' ib p' M'∧Step w p w' p'
def far (p:Pl) (v:Value):Prop:=∀k,v.ownBlock=some k→p.r k=none
theorem slY_lt {w:World} {v:Value} {b:By} (h:SlY w v b) (hb:0<b.length):∀k,v.ownBlock=some k→k<w.heap.size:=by
 obtain ⟨a,cap,rfl,_⟩:=SlF.open h
 obtain ⟨g,off,rfl,hg,_⟩:=SlY.at h hb
 intro k hk
 have:g=k:=by simpa [Value.ownBlock] using hk
 omega
theorem far.step {p':Pl} {w w':World} {v:Value} {b:By} (hv:SlY w v b) (hb:0<b.length) (h:far p v) (hs:Step w p w' p'):SlY w' v b∧far p' v:=by
 have hlt:=slY_lt hv hb
 refine ⟨SlF.fr hv hs.fr fun k hk hm=>?_,fun k hk=>?_⟩
 ·have:=(mem_own.1 hm).2
  rw [h k hk] at this
  cases this
 ·cases h':p'.r k with
  | none=>rfl
  | some x =>
    rcases hs.new k (by rw [h'];rfl) with h1 | h1
    ·rw [h k hk] at h1;cases h1
    ·have:=hlt k hk;omega
theorem box_step {p':Pl} {w w':World} {bx:Nat} {cs:List Value} {t:TypeId} (hB:Blk w bx cs t) (h:p.r bx=none) (hs:Step w p w' p'):Blk w' bx cs t∧p'.r bx=none:=by
 refine ⟨hB.fr hs.fr fun hm=>?_,?_⟩
 ·have:=(mem_own.1 hm).2
  rw [h] at this
  cases this
 ·cases h':p'.r bx with
  | none=>rfl
  | some x =>
    rcases hs.new bx (by rw [h'];rfl) with h1 | h1
    ·rw [h] at h1;cases h1
    ·have:=hB.lt;omega
theorem iPut_calls (c f t a:Nat) (b:By) (vb fv:Value) (bel:List By) (w:World) (h:ImgW w ib p M) (hok:OkI M) (hc:c<M.t.length) (ht:t=f+b.length) (hz:t≤M.z) (hb:0<b.length) (hvb:SlY w vb b) (hvr:far p vb)
 (hbel:BelW ib M p w fv bel) (hfree:needB (M.t.getD c zS)=true→0<freeN M.n) :
 Calls Tryz.prog 140 #[.pointer (some ⟨ib,0,none⟩),.agg #[.int .i64 (c:Int),.int .i64 (f:Int),.int .i64 (t:Int),.int .i64 (a:Int)],vb,fv] w (opPost w ib p (putI M c f b (cluB M c bel))):=by
 have hf0:=(Fr.refl [] w).alloc (.cells #[.int .i64 (c:Int),.int .i64 (f:Int),.int .i64 (t:Int),.int .i64 (a:Int)] 201)
 have B0:=Blk.new w [.int .i64 (c:Int),.int .i64 (f:Int),.int .i64 (t:Int),.int .i64 (a:Int)] 201
 have h0:=h.fr0 hf0
 have hbx:p.r w.heap.size=none:=h.new (Nat.le_refl _)
 have kN:=iNeeds_calls c f t a _ h0
 rw [tget_nat] at kN
 have c0:=B0.cell
 have hx:=cluB_len hok.toOkJ c bel
 obtain ⟨va,vc,rfl,hvl,hvm,_⟩:=SlF.open hvb
 have hst0:Step w p (w.alloc (.cells #[.int .i64 (c:Int),.int .i64 (f:Int),.int .i64 (t:Int),.int .i64 (a:Int)] 201)) p:=Step.fr0 hf0
 obtain ⟨R,hR⟩:∃R,R=putI M c f b (cluB M c bel):=⟨_,rfl⟩
 rw [←hR]
 have HR:=hidIt hR
 have Hlen:=hidIt hc
 have HT:=hidIt ht
 have HX:=hidIt hx
 clear hR hc ht hx
 cases hn:needB (M.t.getD c zS)
 case' true =>
  rw [hn] at kN
  have hpos:=hfree hn
  have HK:=hidIt (fr1_lt (hfree hn))
  have HR2:Hid (R=overI (putN M c (fr1 M.n) (cluB M c bel)) (fr1 M.n) f b):=hidIt (by rw [HR.out];unfold putI;rw [if_pos hn])
  have hok2:=putN_ok hok Hlen.out HK.out.1 HK.out.2 (cluB M c bel) HX.out
  clear HR hn hfree
  go_enter Tryz.func140,Tryz.ntmps140
  go_wp2_with fail
  refine kN.mono ?_
  rintro e w1 ⟨rfl,hf1⟩
  have h1:=h0.fr0 hf1
  have B1:=B0.fr0 hf1
  have c1:=B1.cell
  have hst1:=hst0.trans (Step.fr0 hf1)
  clear c0
  go_wp2_with fail
  refine (iCluster_calls c fv bel w1 h1 hok (hbel.step hst1)).mono ?_
  have h1n:=fun k hk=>h1.new (k:=k) hk
  have hlt1:w.heap.size<w1.heap.size:=B1.lt
  rintro e w2 ⟨v,rfl,hown,hf2⟩
  have h2:=h1.fr0 hf2
  have b2:=h2.blk.cell
  have hst2:=hst1.trans (Step.fr0 hf2)
  have kT:=cTake_calls p.nb p.nv M.n w2 h2.cnt hpos
  have B2:=B1.fr0 hf2
  have c2:=B2.cell
  have hz2:=hf2.size
  clear h0 h1 hf1 hf2 B1 c1 kN B0 hf0 hst0 hst1
  go_wp2_with fail
  refine kT.mono ?_
  rintro e w3 ⟨g,gc,hnv,rfl,hC,hf3⟩
  have hgr:p.r g=some 4:=h2.rr g (by rw [hnv];rfl)
  have h3:=h2.setN hC hf3 (fun k hk=>by rw [List.mem_singleton.1 hk,hnv];rfl)
  have hst3:=hst2.trans (Step.of_fr hf3 (fun k hk _=>by rw [List.mem_singleton.1 hk,hgr];rfl))
  have hv1':∀k,v.ownBlock=some k→w.heap.size<k:=fun k hk=>Nat.lt_of_lt_of_le hlt1 (own_base hown k hk)
  have hv1:∀k,v.ownBlock=some k→w.heap.size≤k:=fun k hk=>Nat.le_of_lt (hv1' k hk)
  have hvn:∀k,v.ownBlock=some k→p.r k=none:=fun k hk=>h1n k (own_base hown k hk)
  have hown3:w3.ownsRow 0 5 1 v (cluB M c bel).length ((cluB M c bel).flatMap byC):=owns_base (base':=0) (owns_fr hown hf3 (fun k hk hm=>by have:=hvn k hk;rw [List.mem_singleton.1 hm,hgr] at this;cases this)) (Nat.zero_le _)
  have B3:=(box_step B2 hbx (Step.of_fr (p:=p) hf3 (fun k hk _=>by rw [List.mem_singleton.1 hk,hgr];rfl))).1
  obtain ⟨es,clock,hm,hi⟩:=h3.dat
  have b3:=h3.blk.cell
  have hk512:fr1 M.n<512:=by have:=HK.out.1;have:=hok.room;omega
  clear h2 b2 hst2 kT hC hf3 B2 c2 hown
  have nbx:w.heap.size ∉ [p.db]:=fun hx=>by have:=h3.rd;rw [←List.mem_singleton.1 hx,hbx] at this;cases this
  go_wp2_with (refine wpList_mapUpdate_isM rfl _ _ _ 157 rfl Tryz.underlying157 keyInt hi p.db rfl _ rfl _ rfl (keyH hk512) hm ?_;intro es' clock' hi';have c4:=(B3.fr (putMap_fr w3 p.db es' clock') nbx).cell)
  have hf4:=putMap_fr w3 p.db es' clock'
  have h4:=h3.putD (x:=fr1 M.n) (v:=v) (b:=cluB M c bel) (mapAt_putMap (mapAt_lt hm) _ _) hi' hf4 hown3 hvn
  have hst4:Step w p (putMap w3 p.db es' clock') (p.putD (fr1 M.n) v):=by
   refine ⟨hst3.fr.trans hf4 fun x hx hl=>mem_own.2 ⟨hl,by rw [List.mem_singleton.1 hx,h3.rd];rfl⟩,fun k hk=>?_⟩
   by_cases e:v.ownBlock=some k
   ·exact .inr (hv1 k e)
   ·exact .inl (by simpa [Pl.putD,e] using hk)
  have B4:=B3.fr hf4 nbx
  have hbx4:(p.putD (fr1 M.n) v).r w.heap.size=none:=by
   have e:¬v.ownBlock=some w.heap.size:=fun e=>by have:=hv1' _ e;omega
   simp [Pl.putD,e,hbx]
  have hlM:liveS { M with n:=M.n.set (fr1 M.n) 1,d:=setF M.d (fr1 M.n) (some (cluB M c bel)) } (M.t.getD c zS):=fun e=>by
   refine ⟨hok.right _ (getD_memS Hlen.out),?_⟩
   have:=hok.live (getD_memS Hlen.out) e
   show 0<(M.n.set (fr1 M.n) 1).getD _ 0
   rw [getD_setN _ _ _ _ HK.out.1]
   split
   ·omega
   ·exact this
  have kS:=iSet_calls c (1,((fr1 M.n:Nat):Int),true) _ h4 Hlen.out (by simp [rightS];omega) hlM
  unfold slotV at kS
  simp only at kS
  clear hlM hi' hi hm h3 b3 B3 hst3
  go_wp2_with fail
  refine kS.mono ?_
  rintro e w6 ⟨rfl,h6,hst5⟩
  have hst6:=hst4.trans hst5
  have hb6:=box_step B4 hbx4 hst5
  have B6:=hb6.1
  have hbx6:=hb6.2
  have hvb6:=(far.step hvb hb hvr hst6)
  have hs6:∃M6,M6=putN M c (fr1 M.n) (cluB M c bel):=⟨_,rfl⟩
  obtain ⟨M6,hM6⟩:=hs6
  have hset:setI { M with n:=M.n.set (fr1 M.n) 1,d:=setF M.d (fr1 M.n) (some (cluB M c bel)) } c (1,((fr1 M.n:Nat):Int),true)=M6:=hM6.symm
  rw [hset] at h6
  have Ht6:Hid (M6.t.getD c zS=(1,((fr1 M.n:Nat):Int),true)):=hidIt (by rw [hM6,(putN_keep _).1,getD_setS Hlen.out,if_pos rfl])
  have Hd6:Hid (M6.d (fr1 M.n)=some (cluB M c bel)):=hidIt (by rw [hM6,putN_d hok Hlen.out HK.out.1 HK.out.2,if_pos rfl])
  have HR6:Hid (R=overI M6 (fr1 M.n) f b):=hidIt (by rw [HR2.out,hM6])
  clear hset HR2 hok2 hM6 kS h4 hst4 hst5 hf4 c4 hb6 B4 hbx4 hpos HK
  generalize fr1 M.n=k at *
  generalize cluB M c bel=x6 at *
  have hx6:=HX.out
  generalize p.putD k v=p6 at *
  go_wp2_with fail
 case' false =>
  rw [hn] at kN
  obtain ⟨o1,o2,o3⟩:=own_one hok Hlen.out (by rw [hn];simp)
  obtain ⟨x6,hd6,hx6l⟩:=hok.dat (hst (M.t.getD c zS)) (by rw [o3];omega)
  obtain ⟨hx6h,hk512⟩:=host_nat (hok.right _ (getD_memS Hlen.out)) o1
  have Ht6':M.t.getD c zS=(1,((hst (M.t.getD c zS):Nat):Int),true):=by
   have e:M.t.getD c zS=((M.t.getD c zS).1,(M.t.getD c zS).2.1,(M.t.getD c zS).2.2):=rfl
   rw [o1,o2,hx6h] at e
   exact e
  have HR6:Hid (R=overI M (hst (M.t.getD c zS)) f b):=hidIt (by rw [HR.out];unfold putI;rw [if_neg (by rw [hn];simp)])
  have Hd6:=hidIt hd6
  clear HR hn o1 o2 o3 hd6 hx6h
  generalize hst (M.t.getD c zS)=k at *
  have Ht6:=hidIt Ht6'
  clear Ht6'
  go_enter Tryz.func140,Tryz.ntmps140
  go_wp2_with fail
  refine kN.mono ?_
  rintro e w6 ⟨rfl,hf1⟩
  have h6:=h0.fr0 hf1
  have B6:=B0.fr0 hf1
  have hst6:=hst0.trans (Step.fr0 hf1)
  have hvb6:=(far.step hvb hb hvr hst6)
  have hbx6:=hbx
  obtain ⟨M6,hM6⟩:∃M6,M6=M:=⟨_,rfl⟩
  rw [←hM6] at h6 Ht6 Hd6 HR6
  obtain ⟨p6,hp6⟩:∃p6,p6=p:=⟨_,rfl⟩
  have hst6':Step w p w6 p6:=by rw [hp6];exact hst6
  have hvb6':SlY w6 (.slice va b.length vc) b∧far p6 (.slice va b.length vc):=by rw [hp6];exact hvb6
  have hbx6':p6.r w.heap.size=none:=by rw [hp6];exact hbx6
  have h6':ImgW w6 ib p6 M6:=by rw [hp6];exact h6
  have hx6:=hx6l
  clear hst6 hvb6 hbx6 h6
  have hst6:=hst6'
  have hvb6:=hvb6'
  have hbx6:=hbx6'
  have h6:=h6'
  clear hst6' hvb6' hbx6' h6' hp6 hM6 c0 kN hf0 hf1 B0 h0 hst0 hfree
  go_wp2_with fail
 all_goals
  have hx6':x6.length≤128∧t≤x6.length:=by
   have:M.z≤128:=by
    unfold Img.z
    have:2 ^ M.B≤2 ^ 3:=Nat.pow_le_pow_right (by omega) hok.B
    omega
   omega
  have hxt:f<t:=by have:=HT.out;omega
  have hown6:=h6.byt k x6 Hd6.out
  obtain ⟨g6,c6,hdv,_,hgc⟩:=owns_succ hown6 (by omega)
  have hdr:Fr [] w6 w6.drew:=(Fr.refl [] w6).drew
  have h7:=h6.fr0 hdr
  obtain ⟨es7,clock7,hm7,hi7⟩:=h7.dat
  have b7:=h7.blk
  have B7:=B6.drew
  have kG:=Get_calls p6.tb p6.mb M6.t c w6.drew h7.tab
  rw [tget_nat,Ht6.out] at kG
  unfold slotV at kG
  simp only at kG
  have hr6:p6.r g6=some (8+k):=h6.rb k x6 Hd6.out g6 (by rw [hdv];rfl)
  have nib:ib ∉ [g6]:=fun hx=>by have:=h6.ri;rw [List.mem_singleton.1 hx,hr6] at this;have:=Option.some.inj this;omega
  have ndb:p6.db ∉ [g6]:=fun hx=>by have:=h6.rd;rw [List.mem_singleton.1 hx,hr6] at this;have:=Option.some.inj this;omega
  have nbx:w.heap.size ∉ [g6]:=fun hx=>by rw [List.mem_singleton.1 hx,hr6] at hbx6;cases hbx6
  have hlk:=fun X (hX:Fr [g6] w6.drew X)=>lookM k hk512 hi7 Hd6.out X (mapAt_fr hm7 hX ndb)
  rw [hdv] at hlk
  have hc1:t≤c6:=by omega
  have hc2:f≤t:=by omega
  have hc3:¬c6=f:=by omega
  have fh:=fieldHost (.int .i64 1) (.int .i64 (k:Int)) (.bool true)
  go_wp2_with fail
  refine wp_region_G (Fr [g6] w6.drew) [(true,0),(true,1),(true,2),(true,3),(true,4),(true,5),(true,6),(true,7),(true,8),(true,9),(true,13),(true,14),(true,15),(true,16),(true,18),(false,10),(true,11),(true,12),(true,17),(false,19)] (by as_aux_lemma=>kernel_rfl) (by as_aux_lemma=>kernel_rfl) (Fr.refl _ _) ?_
  simp only [inOrder,jD,jE,jF,jG]
  iterate 3 (refine wpG_pure fun K hK=>?_;go_simp;refine hK _ ?_;clear hK K)
  refine wpG_val (.map (some p6.db)) (by first | rfl | go_simp) (fun X hX=>by have cc:=(b7.fr hX nib).cell;go_simp) ?_
  simp only [Act.put,jA,jB,jC]
  iterate 3 (refine wpG_pure fun K hK=>?_;go_simp;refine hK _ ?_;clear hK K)
  refine wpG_val (.pointer (some ⟨p6.tb,0,none⟩)) (by first | rfl | go_simp) (fun X hX=>by have cc:=(b7.fr hX nib).cell;go_simp) ?_
  simp only [Act.put,jA,jB,jC]
  iterate 1 (refine wpG_pure fun K hK=>?_;go_simp;refine hK _ ?_;clear hK K)
  refine wpG_val (.int .i64 (c:Int)) (by first | rfl | go_simp) (fun X hX=>by have cc:=(B7.fr hX nbx).cell;go_simp) ?_
  simp only [Act.put,jA,jB,jC]
  iterate 1 (refine wpG_pure fun K hK=>?_;go_simp;refine hK _ ?_;clear hK K)
  refine wpG_val (.int .i64 (f:Int)) (by first | rfl | go_simp) (fun X hX=>by have cc:=(B7.fr hX nbx).cell;go_simp) ?_
  simp only [Act.put,jA,jB,jC]
  iterate 1 (refine wpG_pure fun K hK=>?_;go_simp;refine hK _ ?_;clear hK K)
  refine wpG_val (.int .i64 (t:Int)) (by first | rfl | go_simp) (fun X hX=>by have cc:=(B7.fr hX nbx).cell;go_simp) ?_
  simp only [Act.put,jA,jB,jC]
  iterate 1 (refine wpG_pure fun K hK=>?_;go_simp;refine hK _ ?_;clear hK K)
  refine wpG_one fun K hK=>?_
  go_simp
  refine (kG).mono ?_
  rintro e w8 ⟨rfl,hf8⟩
  refine hK _ _ (hf8.weak) ?_
  clear hK K
  iterate 1 (refine wpG_pure fun K hK=>?_;go_simp;refine hK _ ?_;clear hK K)
  refine wpG_val (.slice (some ⟨g6,0,none⟩) x6.length c6) (by first | rfl | go_simp) (fun X hX=>by have cc:=hlk X hX;go_simp) ?_
  simp only [Act.put,jA,jB,jC]
  iterate 1 (refine wpG_pure fun K hK=>?_;go_simp;refine hK _ ?_;clear hK K)
  have h8:=h7.fr0 hf8
  have hown8:=h8.byt k x6 Hd6.out
  rw [hdv] at hown8
  have hsrc:=SlF.fr0 (SlF.fr0 hvb6.1 hdr) hf8
  have hne2:t - f=b.length:=by have:=HT.out;omega
  have hfl:(b.flatMap byC).length=b.length:=flatY_length b
  obtain ⟨cur,hcur,hcl,hown9⟩:=owns_copy (cs:=b.flatMap byC) (off:=f) hown8 (by rw [hfl];omega)
  obtain ⟨sb,so,rfl,hsb,_⟩:=SlY.at hsrc hb
  obtain ⟨a',cap',hav,_,_,hcc⟩:=hsrc
  cases hav
  refine wpG_list rfl (fun _ _ h=>h) fun K hK=>?_
  refine wpList_copy rfl _ _ _ _ rfl 5 Tryz.underlying31 sizeY g6 f (t - f) (c6 - f) ⟨sb,so,none⟩ b.length vc rfl rfl cur _ hcur (b.flatMap byC) (by rw [hfl,hne2];simp) (fun j u hu=>?_) hcl (flat_one (fun _=>by_one) b) ?_
  ·rcases hcc with he | ⟨b0,o0,hab,hb0,hc0⟩
   ·rw [he] at hu;cases hu
   ·cases hab
    have hadd:(⟨sb,so,none⟩:Addr).add j=⟨sb,so+j,none⟩:=by unfold Addr.add;split <;> simp_all
    rw [hadd]
    exact hc0 j u hu
  ·have hcs:(b.flatMap byC).length=b.length:=hfl
   have hf9:Fr [g6] w8 (w8.setRow g6 (cur.toList.take f++b.flatMap byC++cur.toList.drop (f+(b.flatMap byC).length)).toArray):=fr_setRow _ _
   have hspl:(x6.flatMap byC).take f++b.flatMap byC++(x6.flatMap byC).drop (f+(b.flatMap byC).length)=(spl x6 f b).flatMap byC:=by rw [spl_flat,hfl]
   rw [hspl] at hown9
   have hsl:(spl x6 f b).length=x6.length:=spl_len (by omega)
   rw [←hsl] at hown9
   have h9:=h8.setB (x:=k) (b:=x6) (b':=spl x6 f b) Hd6.out (by rw [hdv];rw [hsl] at hown9 ⊢;exact hown9) hf9 (fun y hy=>by rw [List.mem_singleton.1 hy,hdv];rfl)
   have hR9:R={ M6 with d:=setF M6.d k (some (spl x6 f b)) }:=by
    rw [HR6.out]
    unfold overI
    rw [Hd6.out]
    rfl
   rw [←hR9] at h9
   have hst9:Step w p (w8.setRow g6 (cur.toList.take f++b.flatMap byC++cur.toList.drop (f+(b.flatMap byC).length)).toArray) p6:=(hst6.trans (Step.fr0 (hdr.trans0 hf8))).trans (Step.of_fr hf9 (fun y hy _=>by rw [List.mem_singleton.1 hy,hr6];rfl))
   refine hK _ (fun _ h=>h) _ _ (hf8.weak.trans' hf9) ?_
   clear hK K
   refine wpG_end ?_
   generalize w8.setRow g6 (cur.toList.take f++b.flatMap byC++cur.toList.drop (f+(b.flatMap byC).length)).toArray=w9 at *
   clear hown9 hown8 hcur hcl h8 h7 hi7 hm7 hlk hcc hf9 hspl hR9 HR6 h6
   go_wp2
   exact bodyPost_end (v:=.tuple #[]) (results_none rfl _ _ _) rfl ⟨p6,rfl,h9,hst9⟩
end
end Go.Proofs.YtffnihooekbcnaaGreat
namespace Go.Proofs.YtffnihooekbcnaaGreat
open Go.RowKit Go.Maps
attribute [local go_sem] Oper.semAt_some
attribute [local go_sem] mapAt_alloc mapAt_setCell mapAt_drew mapAt_drewN
theorem inside_ok {M:Img} {x l:Int} (h:insideI M x l=0):∃a n:Nat,x=a∧l=n∧a+n≤M.t.length*2 ^ M.B:=by
 unfold insideI at h
 split at h
 ·cases h
 ·split at h
  ·cases h
  ·unfold allI at *
   generalize M.t.length*2 ^ M.B=A at *
   exact ⟨x.toNat,l.toNat,by omega,by omega,by omega⟩
theorem inside_nat {M:Img} {a n:Nat} (h:a+n≤M.t.length*2 ^ M.B):insideI M a n=0:=by
 unfold insideI allI
 generalize M.t.length*2 ^ M.B=A at *
 rw [if_neg (by omega),if_neg (by omega)]
theorem all_le {M:Img} (h:OkJ M):M.t.length*2 ^ M.B≤2048:=by
 have h1:2 ^ M.B≤2 ^ 3:=Nat.pow_le_pow_right (by omega) h.B
 have h2:M.t.length*2 ^ M.B≤256*8:=Nat.mul_le_mul h.len h1
 omega
def readPost (w:World) (M:Img) (x l:Int) (e:Ending) (w':World):Prop:=∃v,e=.returned (.tuple #[v,.int .i64 (insideI M x l)])∧SlY w' v (if insideI M x l=0 then readI M x.toNat l.toNat else [])∧okV v ∧
 (∀k,v.ownBlock=some k→w.heap.size≤k)∧Fr [] w w'
theorem slY_nil (w:World):SlY w (.slice none 0 0) []:=⟨none,0,rfl,Nat.le_refl _,by unfold maxLen;omega,.inl rfl⟩
theorem z_le {M:Img} (h:OkJ M):M.z≤128:=by
 unfold Img.z
 have:2 ^ M.B≤2 ^ 3:=Nat.pow_le_pow_right (by omega) h.B
 omega
section
variable {ib:Nat} {p:Pl} {M:Img}
theorem iRead_calls (x l:Int) (w:World) (h:ImgW w ib p M) (hok:OkI M):Calls Tryz.prog 73 #[.pointer (some ⟨ib,0,none⟩),.int .i64 x,.int .i64 l] w (readPost w M x l):=by
 have B0:=Blk.new w [.pointer (some ⟨ib,0,none⟩)] 112
 have hF0:=(Fr.refl [] w).alloc (.cells #[.pointer (some ⟨ib,0,none⟩)] 112)
 have h0:=h.fr0 hF0
 have kI:=iInside_calls x l _ h0 hok.B
 have c0:=B0.cell
 by_cases hE:insideI M x l=0
 ·obtain ⟨a,n,rfl,rfl,hal⟩:=inside_ok hE
  unfold readPost
  rw [hE] at kI ⊢
  simp only [if_true,Int.toNat_natCast]
  refine calls_marks Tryz.func73 rfl ?_
  simp only [Tryz.ntmps73,List.size_toArray,List.length_cons,List.length_nil,Nat.reduceAdd,Nat.reduceSub,Array.replicate_succ,Array.replicate_zero,List.push_toArray,List.append_toArray,List.nil_append,List.cons_append]
  go_wp2_with fail
  refine kI.mono ?_
  rintro e w1 ⟨rfl,hf1⟩
  have B1:=B0.fr0 hf1
  have hF1:=hF0.trans0 hf1
  have h1:=h0.fr0 hf1
  have c1:=B1.cell
  clear c0 h0 hf1 hF0 kI B0
  have Bo:=Blk.new w1 [.slice none 0 0] 31
  have hfo:=(Fr.refl [] w1).alloc (.cells #[.slice none 0 0] 31)
  have hF2:=hF1.trans0 hfo
  have B2:=B1.fr0 hfo
  have h2:=h1.fr0 hfo
  have c2:=B2.cell
  have hbm:w.heap.size<w1.heap.size:=B1.lt
  have hbo:p.r w1.heap.size=none:=h1.new (Nat.le_refl _)
  clear c1
  go_wp2_with fail
  refine (iPieces_calls (ib:=ib) a n _).mono ?_
  rintro e w3 ⟨b1,b2,b3,rfl,hb1,hb2,hb3,hf3,g1,g2,g3⟩
  have hlen:=hok.len
  have hB:=hok.B
  have hal2:=all_le hok.toOkJ
  have h3:=h2.fr0 hf3
  have hseq:=pieces_seq b1 b2 b3 a n w3 h3 hok.B (by omega) hb1 hb2 hb3
  have Bo3:=Bo.fr0 hf3
  have B3:=B2.fr0 hf3
  have hF3:=hF2.trans0 hf3
  have hsz:=hF3.size
  have hlo:=Bo3.lt
  have hlm:=B3.lt
  simp only [World.size_alloc] at g1 g2 g3
  have hl3:=hb3.lt
  clear h1 hF1 B1 Bo hfo hF2 B2 h2 c2 hf3 hb1 hb2
  have hEe:seg M (16*a) (pcE M.z a n 0)=[]:=by rw [pcE_zero];rfl
  have hEl:Hid (seg M (16*a) (pcE M.z a n (pcN M.z a n))=readI M a n):=hidIt (by rw [pcE_last (z_pos M)];rfl)
  go_wp2_with fail
  refine wp_rangeFunc_seq rfl (enters_of Tryz.func174 (by kernel_rfl) rfl) hseq (Fr.refl _ _) (fun k f A=>∃v,f=w1.heap.size :: v.ownBlock.toList∧Blk A w1.heap.size [v] 31∧A.ownsRow w3.heap.size 5 1 v (pcE M.z a n k) ((seg M (16*a) (pcE M.z a n k)).flatMap byC)∧Blk A w.heap.size [.pointer (some ⟨ib,0,none⟩)] 112∧ImgW A ib p M∧Fr [] w A) (fun _ _ _=>False) [w1.heap.size] ?st (fun _ _ _ _ _ h _ _=>h) (by simp) (by simp;omega) ⟨.slice none 0 0,rfl,Bo3,by rw [hEe,pcE_zero];exact World.ownsRow_nil _ _ _ _,B3,h3,hF3⟩ ?round ?done (fun _ _ _ _ _ _ h _=>h.elim)
  case st =>
   rintro k f A B M' ⟨v,rfl,hb,ho,hb0,hi,hf⟩ hF hM
   exact ⟨v,rfl,stab_blk hb hF hM hlo (by simp),stab_own ho hF hM (fun x hx=>⟨by simp [hx],by simp⟩),stab_blk hb0 hF hM hlm (by simp),hi.fr hF (fun x hx=>by rcases hM x hx with h1 | h1;cases h1;exact h3.new h1.1),stab_fr hf hF hM (by omega) (by simp)⟩
  case round =>
   rintro lp k f A args q1 q2 q3 q4 hk ⟨v,hfe,hb,ho,hb0,hi,hf⟩ rfl
   refine ⟨rfl,?_⟩
   have Hn:=hidIt (seg_succ hok.toOkJ hk)
   have Hf:=pc_facts (z_pos M) hk
   have He:=pcE_at (z_pos M) hk
   have hlc:=hok.toOkJ.conc (pcC M.z a k)
   have hz128:=z_le hok.toOkJ
   have hE32:pcE M.z a n k≤65536:=by omega
   have hft:pcFr M.z a k<pcTo M.z a n k:=Hf.1
   have htz:pcTo M.z a n k≤M.z:=Hf.2.1
   have HEk:=hidIt He.2.2.2.1
   have hc4:=fun W (hW:ImgW W ib p M)=>iCluster_calls (pcC M.z a k) .nilFunc [] W hW hok (BelW.nil ib M p W)
   rw [cluB_nil] at hc4
   unfold pieceV
   clear hseq Hf He hEl hEe hE
   obtain ⟨E1,hE1⟩:∃E,Hid (pcE M.z a n (k+1)=E):=⟨_,hidIt rfl⟩
   obtain ⟨S1,hS1⟩:∃S,Hid (seg M (16*a) E1=S):=⟨_,hidIt rfl⟩
   rw [hE1.out] at Hn HEk
   rw [hS1.out] at Hn
   generalize seg M (16*a) (pcE M.z a n k)=S0 at *
   generalize pcE M.z a n k=E0 at *
   generalize pcAt M.z a k=A0 at *
   generalize pcFr M.z a k=F at *
   generalize pcTo M.z a n k=T at *
   generalize pcC M.z a k=c at *
   generalize conC M c=C at *
   have hfp:=(Fr.refl [] A).alloc (.cells #[.int .i64 (c:Int),.int .i64 (F:Int),.int .i64 (T:Int),.int .i64 (A0:Int)] 201)
   gi_wp2
   have Bp:=Blk.new A [.int .i64 (c:Int),.int .i64 (F:Int),.int .i64 (T:Int),.int .i64 (A0:Int)] 201
   have hlA:=hb.lt
   have hq4:=hfp.size
   refine ⟨⟨v,hfe,hb.fr0 hfp,owns_fr ho hfp (fun _ _ h=>by cases h),hb0.fr0 hfp,hi.fr0 hfp,hf.trans0 hfp⟩,hfp,?_⟩
   clear hb ho hb0 hi hf hfe v
   rintro A2 ⟨v,rfl,hb,ho,hb0,hi,hf⟩ hF2 hsz2
   have hlA2:A.heap.size<A2.heap.size:=by rw [hsz2];simp
   have Bp2:=Bp.fr hF2 (by simp;omega)
   have hd:Fr [] A2 A2.drew:=(Fr.refl _ _).drew
   have b5:=hb.fr0 hd
   have b0:=hb0.fr0 hd
   have bp:=Bp2.fr0 hd
   have hi2:=hi.fr0 hd
   have ho2:=owns_fr ho hd (fun _ _ h=>by cases h)
   have nob:=own_base ho
   have hA3:w3.heap.size≤A2.drew.heap.size:=by have:=hd.size;omega
   have n5:w1.heap.size ∉ v.ownBlock.toList:=fun hx=>by have:=nob _ (Option.mem_toList.1 hx);omega
   have n0:w.heap.size ∉ v.ownBlock.toList:=fun hx=>by have:=nob _ (Option.mem_toList.1 hx);omega
   have np:A.heap.size ∉ v.ownBlock.toList:=fun hx=>by have:=q4 _ (List.mem_cons_of_mem _ hx);omega
   have l5:=hb.lt
   have f5:=hb.frozen
   gi_wp2_with fail
   refine wpIn_region_Z 11 (Fr v.ownBlock.toList A2.drew) [(true,0),(true,1),(true,2),(true,3),(true,5),(true,6),(true,7),(true,8),(false,4),(true,9),(false,10)] (by as_aux_lemma=>kernel_rfl) (by as_aux_lemma=>kernel_rfl) (Fr.refl _ _) ?_
   simp only [inOrder,jD,jE,jF,jG]
   refine wpG_val (v) (by first | rfl | go_simp) (fun X hX=>by have cc:=(b5.fr hX n5).cell;go_simp) ?_
   simp only [Act.put,jA,jB,jC]
   refine wpG_val (.pointer (some ⟨ib,0,none⟩)) (by first | rfl | go_simp) (fun X hX=>by have cc:=(b0.fr hX n0).cell;go_simp) ?_
   simp only [Act.put,jA,jB,jC]
   iterate 1 (refine wpG_pure fun K hK=>?_;go_simp;refine hK _ ?_;clear hK K)
   refine wpG_val (.int .i64 (c:Int)) (by first | rfl | go_simp) (fun X hX=>by have cc:=(bp.fr hX np).cell;go_simp) ?_
   simp only [Act.put,jA,jB,jC]
   iterate 1 (refine wpG_pure fun K hK=>?_;go_simp;refine hK _ ?_;clear hK K)
   refine wpG_val (.int .i64 (F:Int)) (by first | rfl | go_simp) (fun X hX=>by have cc:=(bp.fr hX np).cell;go_simp) ?_
   simp only [Act.put,jA,jB,jC]
   iterate 1 (refine wpG_pure fun K hK=>?_;go_simp;refine hK _ ?_;clear hK K)
   refine wpG_val (.int .i64 (T:Int)) (by first | rfl | go_simp) (fun X hX=>by have cc:=(bp.fr hX np).cell;go_simp) ?_
   simp only [Act.put,jA,jB,jC]
   refine wpG_one fun K hK=>?_
   go_simp
   refine (hc4 _ hi2).mono ?_
   rintro e A3 ⟨v4,rfl,hown4,hf4⟩
   obtain ⟨g4,c4,rfl,hg4,hgc⟩:=owns_succ hown4 (by omega)
   have hc1:T≤c4:=by omega
   have hc2:F≤T:=by omega
   have hc3:¬c4=F:=by omega
   refine hK _ _ (hf4.weak) ?_
   clear hK K
   iterate 1 (refine wpG_pure fun K hK=>?_;go_simp;refine hK _ ?_;clear hK K)
   have hsl:=SlF.mid 1 (fun _=>rfl) (SlF.of_owns hown4:SlY A3 (.slice (some ⟨g4,0,none⟩) C.length c4) C) (m:=F) (j:=T) (by omega) hc2
   have hsa:slAddr (some ⟨g4,0,none⟩) c4 F 1=some ⟨g4,F,none⟩:=by simp [slAddr,hc3,Addr.add];omega
   rw [hsa] at hsl
   have hsn:((C.take T).drop F)=((C.drop F).take (T - F)):=by rw [List.drop_take]
   have hnl:((C.drop F).take (T - F)).length=T - F:=by rw [List.length_take,List.length_drop];omega
   rw [hsn] at hsl
   unfold SlF at hsl
   rw [hnl] at hsl
   have ho3:=owns_fr ho2 hf4 (fun _ _ h=>by cases h)
   refine wpG_list rfl (fun _ _ h=>h) fun K hK=>?_
   refine wpList_append_slL 31 5 (.int .u8 0) 1 1 Tryz.underlying31 infoY rfl (by decide) (by decide) rfl _ _ rfl w3.heap.size v E0 (S0.flatMap byC) rfl ho3 (.slice (some ⟨g4,F,none⟩) (T - F) (c4 - F)) (T - F) _ hsl (fun _ _ h=>by cases h) (by rw [flatY_length,hnl,Nat.mul_one]) (flat_one (fun _=>by_one) _) rfl (by omega) (by omega) (by have:=hf4.size;omega) ?_
   intro v' A4 hown5 hgrow hloc
   have hF5:Fr v.ownBlock.toList A3 A4:=Fr.of_grown hgrow
   refine hK _ (fun _ h=>h) _ _ (hf4.weak.trans' hF5) ?_
   clear hK K
   have hfA:Fr v.ownBlock.toList A2 A4:=((hd.trans0 hf4).weak).trans' hF5
   have h55:=hb.fr hfA n5
   have c5:=h55.cell
   have f55:=h55.frozen
   have l55:=h55.lt
   have h05:=hb0.fr hfA n0
   have hi5:=hi.fr hfA (fun y hy=>h3.new (nob _ (Option.mem_toList.1 hy)))
   rw [←List.flatMap_append,Hn.out,←HEk.out] at hown5
   have hloc':∀y,v'.ownBlock=some y→w3.heap.size≤y∧y<A4.heap.size∧(y∈v.ownBlock.toList∨A2.heap.size≤y):=fun y hy=>by
    refine ⟨own_base hown5 y hy,(hown5.lt y hy).2,?_⟩
    rcases hloc with e | e
    ·rw [e] at hy;exact .inl (Option.mem_toList.2 hy)
    ·rw [e] at hy;cases hy;have:=hf4.size;have:=hd.size;exact .inr (by omega)
   have hq5:=hfA.size
   clear hgrow hloc hF5 hown4 hsl hsa hsn hnl ho3 ho2 hf4 b5 b0 bp hi2 hi ho hb0
   obtain ⟨a5,q5,rfl,_⟩:=Sl.of_owns hown5
   refine wpG_last fun K hK=>?_
   go_simp
   refine hK _ _ ?_
   clear hK K
   gi_wp2
   have hs6:Fr [w1.heap.size] A4 (A4.setCell ⟨w1.heap.size,0,none⟩ (.slice a5 E1 q5)):=(Fr.refl _ _).setCell (.inl (by simp)) _
   refine ⟨_,⟨.slice a5 E1 q5,rfl,h55.setCell 0 _,(by rw [hE1.out,hS1.out];exact owns_fr hown5 hs6 (fun y hy hm=>by have:=(hloc' y hy).1;have:=List.mem_singleton.1 hm;omega)),h05.fr hs6 (by simp;omega),hi5.fr hs6 (fun y hy=>?_),(hf.trans hfA (fun y hy hl=>by have:=nob _ (Option.mem_toList.1 hy);omega)).trans hs6 (fun y hy hl=>by have:=List.mem_singleton.1 hy;omega)⟩,?_,fun y hy=>?_⟩
   ·rw [List.mem_singleton.1 hy];exact hbo
   ·exact (hfA.mono (fun y hy _=>List.mem_cons_of_mem _ hy)).trans' (hs6.mono (fun y hy _=>by have:=List.mem_singleton.1 hy;subst this;exact List.mem_cons_self))
   ·rcases List.mem_cons.1 hy with rfl | hy
    ·exact ⟨by simpa using l55,.inl List.mem_cons_self⟩
    ·have:=hloc' y (Option.mem_toList.1 hy)
     exact ⟨by simpa using this.2.1,this.2.2.imp (List.mem_cons_of_mem _) (by omega)⟩
  case done =>
   rintro D f W d1 d2 ⟨v,rfl,hb,ho,hb0,hi,hf⟩ hK
   have c5:=hb.cell
   rw [hEl.out] at ho
   have hsl:SlY W v (readI M a n):=by
    have hl:(readI M a n).length=pcE M.z a n (pcN M.z a n):=by rw [pcE_last (z_pos M)];exact seg_len _ _ _
    rw [←hl] at ho
    exact SlF.of_owns ho
   have hov:=okV.of_owns ho
   have hnv:=own_base ho
   obtain ⟨av,cv,rfl,_⟩:=Sl.of_owns ho
   clear ho
   go_wp2
   refine leave_mark rfl hK (fun W' _=>results_tmp2 rfl _ _ _) fun W' hF=>⟨_,rfl,SlF.fr hsl hF (fun y hy hm=>d2 (by have:=List.mem_singleton.1 hm;subst this;exact List.mem_cons_of_mem _ (Option.mem_toList.2 hy))),hov,fun y hy=>by have:=hnv y hy;omega,hf.trans1 hF (by omega)⟩
 ·unfold readPost
  rw [if_neg hE]
  generalize insideI M x l=E at *
  refine calls_marks Tryz.func73 rfl ?_
  simp only [Tryz.ntmps73,List.size_toArray,List.length_cons,List.length_nil,Nat.reduceAdd,Nat.reduceSub,Array.replicate_succ,Array.replicate_zero,List.push_toArray,List.append_toArray,List.nil_append,List.cons_append]
  go_wp2_with fail
  refine kI.mono ?_
  rintro e w1 ⟨rfl,hf1⟩
  go_wp2
  exact leave_plain rfl (results_tmp2 rfl _ _ _) ⟨_,rfl,slY_nil _,(fun _ _ h=>by cases h;rfl),(fun _ h=>by cases h),hF0.trans0 hf1⟩
end
end Go.Proofs.YtffnihooekbcnaaGreat
