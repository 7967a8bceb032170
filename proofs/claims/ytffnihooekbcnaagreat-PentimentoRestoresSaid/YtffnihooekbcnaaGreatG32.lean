/-
  Package dir: Decode.
-/
import Derived.Test.YtffnihooekbcnaaGreatG31
set_option maxRecDepth 100000
set_option maxHeartbeats 6400000
namespace Go.Proofs.YtffnihooekbcnaaGreat
open Go.RowKit Go.Maps
attribute [local go_sem] mapAt_alloc mapAt_setCell mapAt_drew mapAt_drewN cells_str store_str
theorem buildEnt (s:List UInt8) (a b:Bool) (w:World):(Instr.build 144 #[(0,strL s),(1,.bool a),(2,.bool b)]).run Tryz.prog w=.ok (.agg #[strL s,.bool a,.bool b,.pointer none]) w:=by kernel_rfl
theorem wpList_buildEnt {ops:Array Oper} {rest:List Oper} {o:Oper} {a:Act} {Q:Exit→Act→World→Prop} {w:World} (hg:o.guard=none) (x y z:Operand) (ho:o.op=.build 144 #[(0,x),(1,y),(2,z)]) (l:List UInt8) (p q:Bool)
 (hx:a.eval x=strL l) (hy:a.eval y=.bool p) (hz:a.eval z=.bool q) (h:wpList Tryz.prog ops Q rest (a.put o.dst (.agg #[strL l,.bool p,.bool q,.pointer none])) w):wpList Tryz.prog ops Q (o :: rest) a w :=
 wpList_plain hg fun K hK=>by
  unfold Oper.wp execOp
  simp only [ho,List.map_toArray,List.map_cons,List.map_nil,hx,hy,hz,Sem.run_bind,buildEnt,Result.andThen_ok,Sem.run_pure]
  exact hK _ _ h
def dDecPost (w:World) (bs:List UInt8) (e:Ending) (w':World):Prop :=
 (∃db mb L,encD (L.map (·.x)) true=bs∧(∀E,OkD E→encD E true=bs→E=L.map (·.x))∧e=.returned (.tuple #[.pointer (some ⟨db,0,none⟩),.int .i64 0])∧DirW w' db mb L∧(∀k∈homes db mb L,w.heap.size≤k)∧Fr [] w w') ∨
   ((∀E,OkD E→encD E true≠bs)∧e=.returned (.tuple #[.pointer none,.int .i64 110])∧Fr [] w w')
def setOU (p q:Bool) (x:Ent):Ent:={ x with on:=p,use:=q }
theorem dDecode_calls (v:Value) (bs:List UInt8) (w:World) (hv:SlY w v bs) (hok:okV v) (hl:bs.length≤100000):Calls Tryz.prog 61 #[v] w (dDecPost w bs):=by
 go_enter Tryz.func61,Tryz.ntmps61
 go_wp2_with fail
 refine (dNew_calls w).mono ?_
 rintro e w1 ⟨db,mb,rfl,n1,n2,hD1,hf1⟩
 go_wp2_with fail
 refine (NewReader_calls v bs w1 (SlF.fr0 hv hf1) hok (by omega)).mono ?_
 rintro e w2 ⟨rb,vb,rfl,n3,n4,hR2,hf2⟩
 have hD2:=hD1.fr0 hf2
 have hlt1:=hD1.lt
 have hF2:=hf1.trans0 hf2
 have hz1:=hf1.size
 have kN:=Num_calls 1 (by omega) rb vb bs 0 w2 hR2
 obtain ⟨l0,e0,n,hq0⟩:∃l0 e0 n,rdNum bs 0 1=(l0,e0,n):=⟨_,_,_,rfl⟩
 have hn:n<256:=by
  have h2:(rdNum bs 0 1).2.2<256:=by
   unfold rdNum
   split
   ·simp
   ·split
    ·simp
    ·have:=valL_lt (bs.take 1)
     refine Nat.lt_of_lt_of_le this ?_
     have:(bs.take 1).length≤1:=by simp;omega
     exact Nat.pow_le_pow_right (n:=256) (by omega) this
  rw [hq0] at h2
  exact h2
 have hl0:l0.length≤100000:=by
  have:=rdNum_short bs 0 1
  rw [hq0] at this
  simp only at this
  omega
 rw [hq0] at kN
 have hrd:=Reads.start hq0
 clear hq0 hf1 hf2 hD1
 simp only at kN
 go_wp2_with fail
 refine kN.mono ?_
 rintro e w3 ⟨rfl,hR3,hf3⟩
 have hrw:w.heap.size≤rb:=by omega
 have hvw:w.heap.size≤vb:=by omega
 have hlr:∀k∈homes db mb [],k<w1.heap.size:=hlt1
 have hD3:=hD2.fr hf3 (fun k hk hx=>by have:=hlt1 k hk;have:=List.mem_singleton.1 hx;omega)
 have hF3:Fr [] w w3:=hF2.trans hf3 (fun x hx hl=>by have:=List.mem_singleton.1 hx;omega)
 have hst:StD' w w3 db mb rb vb []:=⟨hD3,fun k hk=>by
  have:=hlt1 k hk
  simp [homes,feet] at hk
  omega,hF3⟩
 clear kN hR2 hf3 hD2 hD3 hF2 hF3 hlr hlt1
 go_wp2_with fail
 go_loopw [6,7,8,14] (fun _ _ _ i wr=>∃(k:Nat) (L:List Cel) (l:List UInt8) (e:Int),k≤n∧i=.int .i64 k∧RdW wr rb vb l e∧l.length≤100000∧Reads bs n k (L.map (·.x)) l e∧StD' w wr db mb rb vb L) (fun _ _ _ i _=>n - (intOf i).toNat)
 case atStart=>exact ⟨0,[],_,_,Nat.zero_le _,rfl,hR3,hl0,hrd,hst⟩
 case round =>
  clear hst hR3 hrd
  obtain ⟨k,L,l,e,hk,rfl,hR,hll,hrd,hst⟩:=hrel
  by_cases hlt:k<n
  ·obtain ⟨l1,e1,s,hq1⟩:∃a b c,rdText l e 1=(a,b,c):=⟨_,_,_,rfl⟩
   obtain ⟨l2,e2,a,hq2⟩:∃x b c,rdNum l1 e1 1=(x,b,c):=⟨_,_,_,rfl⟩
   obtain ⟨l3,e3,b,hq3⟩:∃a b c,rdNum l2 e2 1=(a,b,c):=⟨_,_,_,rfl⟩
   obtain ⟨l4,e4,y,hq4⟩:∃a b c,rdText l3 e3 2=(a,b,c):=⟨_,_,_,rfl⟩
   have k1:=fun X h=>Text_calls 1 (by omega) rb vb l e X h
   have k2:=fun X h=>Num_calls 1 (by omega) rb vb l1 e1 X h
   have k3:=fun X h=>Num_calls 1 (by omega) rb vb l2 e2 X h
   have k4:=fun X h=>Text_calls 2 (by omega) rb vb l3 e3 X h
   rw [hq1] at k1
   rw [hq2] at k2
   rw [hq3] at k3
   rw [hq4] at k4
   simp only at k1 k2 k3 k4
   have hs1:=rdText_short l e 1
   have hs2:=rdNum_short l1 e1 1
   have hs3:=rdNum_short l2 e2 1
   have hs4:=rdText_short l3 e3 2
   rw [hq1] at hs1
   rw [hq2] at hs2
   rw [hq3] at hs3
   rw [hq4] at hs4
   simp only at hs1 hs2 hs3 hs4
   have Hno1:Hid ((∀S g m,goodB S g m→encB S g m≠y)→∀E,OkD E→encD E true≠bs):=hidIt (hrd.noBits hlt hq1 hq2 hq3 hq4)
   have Hno2:Hid (okName s=false∨findE (L.map (·.x)) s≠none∨8≤(L.map (·.x)).length→∀E,OkD E→encD E true≠bs):=hidIt (hrd.noName hlt hq1 hq2 hq3 hq4)
   have Hst:Hid (∀S g m,goodB S g m→encB S g m=y→Reads bs n (k+1) (insE (rdE s a b S g m) (L.map (·.x))) l4 e4):=hidIt (fun S g m h1 h2=>hrd.step hlt hq1 hq2 hq3 hq4 h1 h2)
   clear hq1 hq2 hq3 hq4 hrd
   go_wp2_with fail
   refine (k1 _ hR).mono ?_
   rintro e w4 ⟨rfl,hR4,hf4⟩
   have hst4:=hst.read hrw hf4
   clear hst hR hf4 k1
   go_wp2_with fail
   refine (k2 _ hR4).mono ?_
   rintro e w5 ⟨rfl,hR5,hf5⟩
   have hst5:=hst4.read hrw hf5
   clear hst4 hR4 hf5 k2
   go_wp2_with fail
   refine (k3 _ hR5).mono ?_
   rintro e w6 ⟨rfl,hR6,hf6⟩
   have hst6:=hst5.read hrw hf6
   clear hst5 hR5 hf6 k3
   have HrdE:Hid (∀S g m,setOU ((a:Int) == 1) ((b:Int) == 1) ⟨s,true,true,S,g,m⟩=rdE s a b S g m):=hidIt (fun _ _ _=>rfl)
   generalize hpa:((a:Int) == 1)=pa at *
   generalize hpb:((b:Int) == 1)=pb at *
   have B6:=Blk.new w6 [strL s,.bool pa,.bool pb,.pointer none] 144
   have hfa:=(Fr.refl [] w6).alloc (.cells #[strL s,.bool pa,.bool pb,.pointer none] 144)
   have hR7:=hR6.fr0 hfa
   have hst7:=hst6.keep hfa
   have hrb6:=hR6.lt
   clear hR6 hst6 hfa
   go_wp2_with (refine wpList_buildEnt rfl _ _ _ rfl _ _ _ rfl rfl rfl ?_)
   refine (k4 _ hR7).mono ?_
   rintro e w7 ⟨rfl,hR8,hf7⟩
   have hst8:=hst7.read hrw hf7
   have B8:=B6.fr hf7 (by simp;omega)
   obtain ⟨cv,w8,hcv,hsy,hcok,hfc⟩:=conv_bytes y w7 (by unfold maxLen;omega)
   have hst9:=hst8.keep hfc
   have hR9:=hR8.fr0 hfc
   have B9:=B8.fr0 hfc
   clear hst7 hst8 hR7 hR8 hf7 B6 B8 k4 hfc
   have hb6:w6.heap.size<w8.heap.size:=B9.lt
   have hrb8:=hR9.lt
   have hvb8:vb<w8.heap.size:=by omega
   have hy3:y.length≤100000:=by omega
   have hl4:l4.length≤100000:=by omega
   clear hs1 hs2 hs3
   go_wp2_with fail
   refine (bDec_calls cv y w8 hsy hcok hy3).mono ?_
   rintro e w9 (⟨S,g,m,tb,bm,hg,hy,rfl,n5,n6,hB,hf9⟩ | ⟨hno,rfl,hf9⟩)
   ·have hst10:=hst9.keep hf9
    have hR10:=hR9.fr0 hf9
    have B10:=B9.fr0 hf9
    have c10:=B10.cell
    have hz9:=hf9.size
    have hpg:pow2 g=true:=hg.2.1
    replace Hst:=hidIt (Hst.out S g m hg hy)
    clear hst9 hR9 B9 hf9 hcv hsy hcok Hno1 hg hy
    cases hr:okName s with
    | false =>
      have hno:=hidIt (Hno2.out (.inl hr))
      go_wp2_with fail
      refine (Add_arg s _ (some ⟨tb,0,none⟩) _ (.inl hr)).mono ?_
      rintro e w10 ⟨rfl,hf10⟩
      have hF:=hst10.fr.trans0 hf10
      clear hr Hno2 Hst
      go_wp2
      go_ret2
      exact .inr ⟨hno.out,rfl,hF⟩
    | true =>
      by_cases hth:findC L s≠none∨8≤L.length
      ·have hno:=hidIt (Hno2.out (.inr (by rw [findC_isNone,List.length_map];exact hth)))
       go_wp2_with fail
       refine (Add_there db mb L s ⟨tb,0,none⟩ _ hst10.dir hr hth).mono ?_
       rintro e w10 ⟨rfl,hf10⟩
       have hF:=hst10.fr.trans0 hf10
       clear hr hth Hno2 Hst
       go_wp2
       go_ret2
       exact .inr ⟨hno.out,rfl,hF⟩
      ·have hc:findC L s=none:=Classical.byContradiction fun h=>hth (.inl h)
       have h8:L.length<8:=by have:=fun h=>hth (.inr h);omega
       clear hth Hno2
       go_wp2_with fail
       refine (Add_yes db mb L s tb bm S g m _ hst10.dir hr hc h8 hB hpg).mono ?_
       rintro e w10 ⟨rfl,c,hcx,hD11,hcn,hf11⟩
       have hst11:=hst10.change (by omega) (by omega) hD11 (hf11.mono fun k hk _=>by simp at hk;simp [hk]) (fun k hk=>by
        rcases feet_insC hk with h | h
        ·exact .inr (hcn k h)
        ·exact .inl h)
       have hap:=hst10.apart
       have hapb:mb≠w6.heap.size:=fun e=>by
        obtain ⟨es,clock,hm,_⟩:=hst10.dir.map
        rw [e] at hm
        have:=(mapAt_some.1 hm).symm.trans B10
        cases this
       have hR11:=hR10.fr hf11 (fun hx=>hap.1 (by have:=List.mem_singleton.1 hx;simp [this])) (fun hx=>hap.2 (by have:=List.mem_singleton.1 hx;simp [this]))
       have B11:=B10.fr hf11 (fun hx=>hapb (List.mem_singleton.1 hx).symm)
       have hcm:c∈insC c L:=mem_insC.2 (.inl rfl)
       have hcnm:c.x.name=s:=by rw [hcx]
       have hfc:findC (insC c L) s=some c:=by have:=find_rising hD11.rising hcm;rwa [hcnm] at this
       have hE:=hD11.ents c hcm
       have hown:=hD11.own hcm
       have hne:∀k,k<w9.heap.size→k ∉ [c.eb]:=fun k hk hx=>by
        have:=hcn c.eb (by simp [Cel.feet])
        have:=List.mem_singleton.1 hx
        omega
       have hdbl:db<w9.heap.size:=hst10.dir.lt db (by simp [homes])
       have hmbl:mb<w9.heap.size:=hst10.dir.lt mb (by simp [homes])
       obtain ⟨es,clock,hm,hi⟩:=hD11.map
       have hs':s.length≤maxLen:=Nat.le_trans (okName_len hr) (by decide)
       have hmd:mapAt w10.drew mb=some (es,clock):=hm
       have hl2:∀X,Fr [c.eb] w10.drew X→(Instr.lookup 125 (.map (some mb)) (strL s) false).run Tryz.prog X=.ok (.pointer (some ⟨c.eb,0,none⟩)) X:=fun X hX=>by
        have:=lookD hi hs' X (mapAt_fr hmd hX (hne mb hmbl))
        rw [hfc] at this
        exact this
       have ef:=hE.blk.drew.frozen
       have ec:=hE.blk.drew.cell
       have ec3:=hE.blk.cell
       have ef3:=hE.blk.frozen
       have el:=hE.blk.drew.lt
       have Bd:=B11.drew
       have Dd:=hD11.blk.drew
       have hEq:(oneC (insC c L) s (setOU pa pb)).map (·.x)=insE (rdE s a b S g m) (L.map (·.x)):=by
        rw [oneC_map,insC_E]
        have h1:∀d∈L.map (·.x),d.name≠c.x.name:=by
         intro d hd
         obtain ⟨d',hd',rfl⟩:=List.mem_map.1 hd
         rw [hcnm]
         exact findC_none.1 hc d' hd'
        have h2:=oneE_ins (e:=c.x) (f:=setOU pa pb) (fun _=>rfl) h1
        rw [hcnm] at h2
        rw [h2,hcx,HrdE.out]
       have HEq:=hidIt hEq
       have hE2:EntW ((w10.drew.setCell ⟨c.eb,1,none⟩ (.bool pa)).setCell ⟨c.eb,2,none⟩ (.bool pb)) (c.on (setOU pa pb)) :=
        ⟨(hE.blk.drew.setCell 1 (.bool pa)).setCell 2 (.bool pb),(hE.bits.fr0 (Fr.refl [] w10).drew).fr (((Fr.refl [c.eb] _).setCell (.inl (by simp)) _).setCell (.inl (by simp)) _) (by simp;exact hown.1.symm) (by simp;exact hown.2.1.symm),hE.pow⟩
       have hFe:Fr [c.eb] w10 ((w10.drew.setCell ⟨c.eb,1,none⟩ (.bool pa)).setCell ⟨c.eb,2,none⟩ (.bool pb)):=(((Fr.refl [c.eb] w10).drew).setCell (.inl (by simp)) _).setCell (.inl (by simp)) _
       have hD12:=hD11.one hcm (f:=setOU pa pb) (fun _=>rfl) (hFe.mono fun k hk _=>by have:=List.mem_singleton.1 hk;simp [Cel.feet,this]) hE2
       rw [hcnm] at hD12
       have hst12:=hst11.change (L':=oneC (insC c L) s (setOU pa pb)) (by have:=hf11.size;omega) (by have:=hf11.size;omega) hD12 (hFe.mono fun k hk _=>List.mem_cons_of_mem _ (mem_feet.2 ⟨c,hcm,by have:=List.mem_singleton.1 hk;simp [Cel.feet,this]⟩)) (fun k hk=>.inl (by rwa [feet_oneC] at hk))
       have hR12:=hR11.fr hFe (hne rb (by omega)) (hne vb (by omega))
       replace hst12:=hidIt hst12
       replace hR12:=hidIt hR12
       clear hst10 hst11 hR10 hR11 hD12 hE2 hFe hEq hD11 hf11 hcn hB B10 c10 hm hi hE hcx hc HrdE hap
       go_wp2_with fail
       refine wp_region_G (Fr [c.eb] w10.drew) [(true,0),(true,1),(true,2),(true,3),(true,4),(true,5),(true,6),(true,7),(true,8),(true,9),(true,10),(true,11),(true,12),(true,13),(true,14),(true,15),(true,16),(true,17),(true,18),(true,19),(false,20),(true,21),(true,22),(false,23)] (by as_aux_lemma=>kernel_rfl) (by as_aux_lemma=>kernel_rfl) (Fr.refl _ _) ?_
       simp only [inOrder,jD,jE,jF,jG]
       iterate 3 (refine wpG_pure fun K hK=>?_;go_simp;refine hK _ ?_;clear hK K)
       refine wpG_val (.map (some mb)) (by first | rfl | go_simp) (fun X hX=>by have cc:=(Dd.fr hX (hne db hdbl)).cell;go_simp) ?_
       simp only [Act.put,jA,jB,jC]
       iterate 1 (refine wpG_pure fun K hK=>?_;go_simp;refine hK _ ?_;clear hK K)
       refine wpG_val (strL s) (by first | rfl | go_simp) (fun X hX=>by have cc:=(Bd.fr hX (hne _ (by omega))).cell;go_simp) ?_
       simp only [Act.put,jA,jB,jC]
       refine wpG_val (.pointer (some ⟨c.eb,0,none⟩)) (by first | rfl | go_simp) (fun X hX=>by have cc:=hl2 X hX;go_simp) ?_
       simp only [Act.put,jA,jB,jC]
       iterate 3 (refine wpG_pure fun K hK=>?_;go_simp;refine hK _ ?_;clear hK K)
       refine wpG_val (.map (some mb)) (by first | rfl | go_simp) (fun X hX=>by have cc:=(Dd.fr hX (hne db hdbl)).cell;go_simp) ?_
       simp only [Act.put,jA,jB,jC]
       iterate 1 (refine wpG_pure fun K hK=>?_;go_simp;refine hK _ ?_;clear hK K)
       refine wpG_val (strL s) (by first | rfl | go_simp) (fun X hX=>by have cc:=(Bd.fr hX (hne _ (by omega))).cell;go_simp) ?_
       simp only [Act.put,jA,jB,jC]
       refine wpG_val (.pointer (some ⟨c.eb,0,none⟩)) (by first | rfl | go_simp) (fun X hX=>by have cc:=hl2 X hX;go_simp) ?_
       simp only [Act.put,jA,jB,jC]
       iterate 1 (refine wpG_pure fun K hK=>?_;go_simp;refine hK _ ?_;clear hK K)
       refine wpG_val (.bool pa) (by first | rfl | go_simp) (fun X hX=>by have cc:=(Bd.fr hX (hne _ (by omega))).cell;go_simp) ?_
       simp only [Act.put,jA,jB,jC]
       iterate 1 (refine wpG_pure fun K hK=>?_;go_simp;refine hK _ ?_;clear hK K)
       refine wpG_val (.bool pb) (by first | rfl | go_simp) (fun X hX=>by have cc:=(Bd.fr hX (hne _ (by omega))).cell;go_simp) ?_
       simp only [Act.put,jA,jB,jC]
       iterate 2 (refine wpG_pure fun K hK=>?_;go_simp;refine hK _ ?_;clear hK K)
       refine wpG_one fun K hK=>?_
       go_simp
       refine hK _ _ ((Fr.refl _ _).setCell (p:=⟨c.eb,1,none⟩) (.inl (by simp)) _) ?_
       clear hK K
       iterate 2 (refine wpG_pure fun K hK=>?_;go_simp;refine hK _ ?_;clear hK K)
       refine wpG_one fun K hK=>?_
       go_simp
       refine hK _ _ (by have h1:=((Fr.refl [c.eb] w10.drew).setCell (p:=⟨c.eb,1,none⟩) (.inl (by simp)) (.bool pa)).setCell (p:=⟨c.eb,2,none⟩) (.inl (by simp)) (.bool pb);exact h1) ?_
       clear hK K
       refine wpG_end ?_
       clear hl2 ef el ec ec3 ef3 Bd Dd
       go_wp2
       go_roundw
       case rel=>exact ⟨k+1,_,l4,e4,by omega,by go_num,hR12.out,by omega,by rw [HEq.out];exact Hst.out,hst12.out⟩
       case measure=>simp [intOf];omega
   ·have hF:=hst9.fr.trans0 hf9
    have hno:=hidIt (Hno1.out hno)
    clear hst9 hR9 B9 hf9 hcv hsy hcok Hno1 Hno2 Hst
    go_wp2
    go_ret2
    exact .inr ⟨hno.out,rfl,hF⟩
  ·have hke:k=n:=by omega
   subst hke
   have hdn:=hidIt hrd.done
   have hF:=hst.fr
   have hok:=hst.dir.ok
   have hen:=fun E (h:l≠[]∨e≠0)=>(fun hE hb=>by
    obtain ⟨_,h1,h2⟩:=hdn.out E hE hb
    rcases h with h | h
    ·exact h h1
    ·exact h h2:OkD E→encD E true≠bs)
   by_cases hen0:rdEnd l e=0
   ·have kE:=End_calls rb vb l e _ hR
    rw [hen0] at kE
    go_wp2_with fail
    refine kE.mono ?_
    rintro e w4 ⟨rfl,rfl⟩
    go_wp2_with fail
    refine (dEncode_calls db mb L true _ hst.dir).mono ?_
    rintro e w5 ⟨ev,rfl,hown,hf5⟩
    have hst5:=hst.keep hf5
    go_wp2_with fail
    refine (EqualY_calls ev v _ bs w5 (SlF.of_owns hown) (SlF.fr0 hv hst5.fr)).mono ?_
    rintro e w6 ⟨rfl,hf6⟩
    have hst6:=hst5.keep hf6
    by_cases heq:encD (L.map (·.x)) true=bs
    ·have hd:decide (encD (L.map (·.x)) true=bs)=true:=decide_eq_true heq
     rw [hd]
     have Heq:=hidIt heq
     clear heq hown hd
     go_wp2
     go_ret2
     exact .inl ⟨db,mb,L,Heq.out,fun E hE hb=>(hdn.out E hE hb).1,rfl,hst6.dir,fun k hk=>(hst6.new k hk).1,hst6.fr⟩
    ·have hd:decide (encD (L.map (·.x)) true=bs)=false:=decide_eq_false heq
     rw [hd]
     have Heq:Hid (∀E,OkD E→encD E true≠bs):=hidIt (fun E hE hb=>by
      have h1:=(hdn.out E hE hb).1
      rw [←h1] at heq
      exact heq hb)
     clear heq hown hd
     go_wp2
     go_ret2
     exact .inr ⟨Heq.out,rfl,hst6.fr⟩
   ·have kE:=End_calls rb vb l e _ hR
    have hq:(rdEnd l e != 0)=true:=by simpa using hen0
    have hno:Hid (∀E,OkD E→encD E true≠bs):=hidIt (fun E=>hen E (by
     unfold rdEnd at hen0
     by_cases he:e=0
     ·left
      intro h
      rw [he,h] at hen0
      simp at hen0
     ·exact .inr he))
    generalize rdEnd l e=q at *
    clear hen0 hen
    go_wp2_with fail
    refine kE.mono ?_
    rintro e w4 ⟨rfl,rfl⟩
    go_wp2
    go_ret2
    exact .inr ⟨hno.out,rfl,hF⟩
end Go.Proofs.YtffnihooekbcnaaGreat
namespace Go.Proofs.YtffnihooekbcnaaGreat
open Go.RowKit Go.Maps
attribute [local go_sem] mapAt_alloc mapAt_setCell mapAt_drew mapAt_drewN cells_str store_str eql_str neq_str guard_str len_str
section
variable {w w':World} {S:SimS} {p:List By}
def crPost (S:SimS) (w:World) (e:Ending) (w':World):Prop :=
 e=.returned (.int .i64 0)∧∃V lb o v ys,Blk w' S.wb V 65∧V[5]? = some (.pointer (some ⟨lb,0,none⟩))∧LstW w' lb o v ys∧ys.map (·.1)=S.ys.map (·.1)∧StepO w (allF (simF S)) w' (fun k=>k=S.wb∨o k)
theorem sCrash_calls (h:SimW w S) (hG:GoodL (S.ys.map (·.1))) (hF:S.F≠none) (kd a g':Int) (va:Option Addr) (vn vc:Nat) (nm ot:By) :
 Calls Tryz.prog 27 #[.pointer (some ⟨S.wb,0,none⟩),.agg (stepC kd a g' (.slice va vn vc) nm ot (.slice none 0 0)).toArray] w (crPost S w):=by
 obtain ⟨w1,hw1⟩:∃w1,Hid (w.alloc (.cells (stepC kd a g' (.slice va vn vc) nm ot (.slice none 0 0)).toArray 34)=w1):=⟨_,hidIt rfl⟩
 have hF1:Fr [] w w1:=by rw [←hw1.out];exact (Fr.refl [] w).alloc _
 have B1:Blk w1 w.heap.size (stepC kd a g' (.slice va vn vc) nm ot (.slice none 0 0)) 34:=by rw [←hw1.out];exact Blk.new w (stepC kd a g' (.slice va vn vc) nm ot (.slice none 0 0)) 34
 have h1:=h.fr0 hF1
 obtain ⟨y,hy⟩:∃y,S.F=some y:=Option.ne_none_iff_exists'.1 hF
 have kG:=sGone_calls h1
 have hwl:=h.blk.lt
 have hwk:w.heap.size<w1.heap.size:=B1.lt
 go_enter Tryz.func27,Tryz.ntmps27
 go_wp2_with fail
 rw [hw1.out]
 clear hw1
 refine kG.mono ?_
 rintro e w2 ⟨rfl,h2,hf2⟩
 have B2:=B1.fr hf2 (by simp;omega)
 have hFil:=h2.fil.fil
 have hSv:=h2.fil.sav y hy
 have hd2:=(Fr.refl [] w2).drew
 rw [show filL ({ S with j:=.none }:SimS).F=[(nLis,y.1)] from by show filL S.F=_;rw [hy];rfl] at hFil
 have hoff3:S.fb≠y.1∧S.fm≠y.1:=by
  have hyl:=hSv.st.blk
  refine ⟨fun e=>?_,fun e=>?_⟩
  ·have h9:=hFil.blk
   rw [show ({ S with j:=.none }:SimS).fb=S.fb from rfl,e] at h9
   have:=h9.symm.trans hyl
   cases this
  ·obtain ⟨es,c,hm,_⟩:=hFil.map
   rw [show ({ S with j:=.none }:SimS).fm=S.fm from rfl,e] at hm
   have:=(mapAt_some.1 hm).symm.trans hyl
   cases this
 have kC:=fiCrash_one nLis y.1 y.2.1 y.2.2.1 y.2.2.2 (hFil.fr0 hd2) (hSv.st.fr0 hd2) hoff3
 have hS2:({ S with j:=.none }:SimS).wb=S.wb:=rfl
 have hc2:=fun X (hX:Blk X S.wb (simC { S with j:=.none }) 65)=>Blk.cell hX
 unfold simC at hc2
 have hyw:∀k,(k=y.1∨k=y.2.1∨k=y.2.2.1)→k<w.heap.size∧k≠S.wb∧k ∉ homes S.db S.dm S.E:=fun k hk=>by
  have h3:simF S 3 k:=.inr (.inr (by rw [hy];exact hk))
  exact ⟨h.sep.low 3 k h3,fun e=>h.sep.off 0 3 k (by decide) e h3,fun e=>h.sep.off 2 3 k (by decide) e h3⟩
 have hB0:=h2.blk.fr0 hd2
 have hK0:=B2.fr0 hd2
 have hD0:=h2.dir.fr0 hd2
 go_wp2_with fail
 refine wp_region_G (fun X=>Blk X S.wb (simC { S with j:=.none }) 65∧Blk X w.heap.size (stepC kd a g' (.slice va vn vc) nm ot (.slice none 0 0)) 34) [(true,0),(true,1),(true,2),(true,3),(true,4),(true,5),(false,6)] (by as_aux_lemma=>kernel_rfl) (by as_aux_lemma=>kernel_rfl) (⟨hB0,hK0⟩) ?_
 simp only [inOrder,jD,jE,jF,jG]
 iterate 3 (refine wpG_pure fun K hK=>?_;go_simp;refine hK _ ?_;clear hK K)
 refine wpG_val (.pointer (some ⟨S.fb,0,none⟩)) (by first | rfl | go_simp) (fun X hX=>by have cc:=hc2 _ hX.1;go_simp) ?_
 simp only [Act.put,jA,jB,jC]
 iterate 1 (refine wpG_pure fun K hK=>?_;go_simp;refine hK _ ?_;clear hK K)
 refine wpG_val (.slice none 0 0) (by first | rfl | go_simp) (fun X hX=>by have cc:=Blk.cell hX.2;go_simp) ?_
 simp only [Act.put,jA,jB,jC]
 refine wpG_one fun K hK=>?_
 go_simp
 refine (kC).mono ?_
 rintro e w3 ⟨rfl,hF3,⟨nm',hS3,hnm⟩,hf3⟩
 have hy1:=hyw y.1 (.inl rfl)
 have hB3:=hB0.fr hf3 (by simp;exact fun e=>hy1.2.1 e.symm)
 have hK3:=hK0.fr hf3 (by simp;omega)
 refine hK _ _ (⟨hB3,hK3⟩) ?_
 clear hK K
 refine wpG_end ?_
 have hD3:=hD0.fr hf3 (fun k hk hm=>by rw [List.mem_singleton.1 hm] at hk;exact hy1.2.2 hk)
 have hok:=hD3.ok
 have c3:=hc2 _ hB3
 have kE:=dEncode_calls S.db S.dm S.E false w3 hD3
 clear kC kG hK3 hK0 hB0 hD0 B1 B2 h1
 go_wp2_with fail
 refine kE.mono ?_
 rintro e w4 ⟨bv,rfl,hbo,hf4⟩
 have hlen:=encD_len hok false
 have kD:=dDecode_calls bv _ w4 (SlF.of_owns hbo) (okV.of_owns hbo) (by omega)
 clear kE hbo
 have kD2:Calls Tryz.prog 61 #[bv] w4 fun e w'=>∃q i,e=.returned (.tuple #[.pointer q,.int .i64 i])∧Fr [] w4 w':=by
  refine kD.mono ?_
  rintro e w' (⟨db,mb,L,_,_,rfl,_,_,hf⟩ | ⟨_,rfl,hf⟩)
  ·exact ⟨_,_,rfl,hf⟩
  ·exact ⟨_,_,rfl,hf⟩
 clear kD hlen hok hD3
 go_wp2_with fail
 refine kD2.mono ?_
 rintro e w5 ⟨q,i,rfl,hf5⟩
 clear kD2
 have hf35:=hf4.trans0 hf5
 have hB5:=hB3.fr0 hf35
 have c5:=hc2 _ hB5
 have e5:=hB5.frozen
 have l5:=hB5.lt
 obtain ⟨W6,hW6⟩:∃W6,Hid (w5.setCell ⟨S.wb,3,none⟩ (.pointer q)=W6):=⟨_,hidIt rfl⟩
 have hs6:Fr [S.wb] w5 W6:=by rw [←hW6.out];exact (Fr.refl [S.wb] w5).setCell (p:=⟨S.wb,3,none⟩) (.inl (by simp)) _
 have hB6:Blk W6 S.wb ((simC { S with j:=.none }).set 3 (.pointer q)) 65:=by rw [←hW6.out];exact hB5.setCell 3 _
 have hfb:S.fb≠S.wb:=fun e=>h.sep.off 0 3 S.fb (by decide) e (.inl rfl)
 have hfm:S.fm≠S.wb:=fun e=>h.sep.off 0 3 S.fm (by decide) e (.inr (.inl rfl))
 have hy2:=hyw y.2.1 (.inr (.inl rfl))
 have hF6:=(hF3.fr0 hf35).fr hs6 (by simpa using hfb) (by simpa using hfm)
 have hz2:=hf2.size
 have hnw:nm'≠S.wb:=by
  rcases hnm with h9 | h9
  ·rw [h9];exact (hyw y.2.2.1 (.inr (.inr rfl))).2.1
  ·have hzz:w2.drew.heap.size=w2.heap.size:=rfl
   omega
 have hS6:SavF W6 y.1 y.2.1 nm' y.2.2.2 (lsB (S.ys.map (·.1))):=⟨(hS3.fr0 hf35).fr hs6 (by simpa using hy1.2.1) (by simpa using hy2.2.1) (by simpa using hnw),hSv.sv,hSv.no⟩
 have kL:=lsLoad_calls _ _ _ _ _ hF6 hS6 hG
 unfold lsLoadPost at kL
 have c6:=hB6.cell
 unfold simC at c6
 simp only [List.set_cons_succ,List.set_cons_zero] at c6
 clear hc2 c3 hF6 hS6 hF3 hS3
 go_wp2_with fail
 rw [hW6.out]
 clear c5 e5 l5
 refine kL.mono ?_
 rintro e w7 ⟨lb,o,v,ys,rfl,hL7,hys,ho7,hf7⟩
 have hB7:=hB6.fr0 hf7
 have c7:=hB7.cell
 have e7:=hB7.frozen
 have l7:=hB7.lt
 unfold simC at c7
 simp only [List.set_cons_succ,List.set_cons_zero] at c7
 have hs8:Fr [S.wb] w7 (w7.setCell ⟨S.wb,5,none⟩ (.pointer (some ⟨lb,0,none⟩))):=(Fr.refl [S.wb] w7).setCell (p:=⟨S.wb,5,none⟩) (.inl (by simp)) _
 have hzz:w2.drew.heap.size=w2.heap.size:=rfl
 have hz3:=hf3.size
 have hz35:=hf35.size
 have hz6:=hs6.size
 have hz7:=hf7.size
 have hL8:=hL7.fr hs8 (fun k hk hh=>by have:=ho7 k hh;have:=List.mem_singleton.1 hk;omega)
 have hall:Fr [S.wb,y.1] w (w7.setCell ⟨S.wb,5,none⟩ (.pointer (some ⟨lb,0,none⟩))) :=
  (((hF1.weak.trans' (hf2.trans0 hd2)).mono (fun k hk _=>by simp at hk ⊢;exact .inl hk)).trans' ((hf3.trans0 hf35).mono (fun k hk _=>by simp at hk ⊢;exact .inr hk))).trans' (((hs6.trans0 hf7).trans' hs8).mono (fun k hk _=>by simp at hk ⊢;exact .inl hk))
 have hfin:=hidIt (show ∃V lb' o v ys,Blk (w7.setCell ⟨S.wb,5,none⟩ (.pointer (some ⟨lb,0,none⟩))) S.wb V 65∧V[5]? = some (.pointer (some ⟨lb',0,none⟩))∧LstW (w7.setCell ⟨S.wb,5,none⟩ (.pointer (some ⟨lb,0,none⟩))) lb' o v ys∧ys.map (·.1)=S.ys.map (·.1)∧StepO w (allF (simF S)) (w7.setCell ⟨S.wb,5,none⟩ (.pointer (some ⟨lb,0,none⟩))) (fun k=>k=S.wb∨o k) from
  ⟨_,lb,o,v,ys,hB7.setCell 5 _,rfl,hL8,hys,⟨_,hall,fun k hk _=>by
   simp at hk
   rcases hk with rfl | rfl
   ·exact ⟨0,rfl⟩
   ·exact ⟨3,.inr (.inr (by rw [hy];exact .inl rfl))⟩⟩,fun k hk=>by
   rcases hk with rfl | hk
   ·exact .inl ⟨0,rfl⟩
   ·exact .inr (by have:=ho7 k hk;omega)⟩)
 clear kL c6 hB7 hB6 hL7 hL8 hall hs8 h h2 hFil hSv hB5 hB3 hys
 go_wp2
 go_ret
 exact ⟨rfl,hfin.out⟩
end
end Go.Proofs.YtffnihooekbcnaaGreat
namespace Go.Proofs.YtffnihooekbcnaaGreat
open Go.RowKit
theorem writeE_no {M:Img} {x:Int} {b:By} {bel:List By} (h:(writeE M x b bel).1≠0):(writeE M x b bel).2=M:=by
 unfold writeE at h ⊢
 split
 ·rfl
 ·split
  ·rfl
  ·split
   ·rfl
   ·rename_i h1 h2 h3
    rw [if_neg h1,if_neg h2,if_neg h3] at h
    exact absurd rfl h
theorem zeroE_no {M:Img} {x l:Int} {bel:List By} (h:(zeroE M x l bel).1≠0):(zeroE M x l bel).2=M:=by
 unfold zeroE at h ⊢
 split
 ·rfl
 ·split
  ·rfl
  ·rename_i h1 h2
   rw [if_neg h1,if_neg h2] at h
   exact absurd rfl h
structure Like (M R:Img):Prop where
 ok:OkI R
 B:R.B=M.B
 t:R.t.length=M.t.length
 room:R.n.length=M.n.length
 s:R.s=M.s
theorem Like.refl {M:Img} (h:OkI M):Like M M:=⟨h,rfl,rfl,rfl,rfl⟩
theorem writeE_like {M:Img} {x:Int} {b:By} {bel:List By} (h:OkI M) (hu:∀c,c<M.t.length→(bel.getD c []).length=M.z):Like M (writeE M x b bel).2:=by
 by_cases h0:(writeE M x b bel).1=0
 ·obtain ⟨a,n,_,_,_,hw⟩:=write_vis (R:=(writeE M x b bel).2) h hu (by rw [←h0])
  exact ⟨hw.ok,hw.B,hw.t,hw.room,hw.s⟩
 ·rw [writeE_no h0];exact Like.refl h
theorem zeroE_like {M:Img} {x l:Int} {bel:List By} (h:OkI M) (hu:∀c,c<M.t.length→(bel.getD c []).length=M.z):Like M (zeroE M x l bel).2:=by
 by_cases h0:(zeroE M x l bel).1=0
 ·obtain ⟨a,n,_,_,_,hw⟩:=zero_vis (R:=(zeroE M x l bel).2) h hu (by rw [←h0])
  exact ⟨hw.ok,hw.B,hw.t,hw.room,hw.s⟩
 ·rw [zeroE_no h0];exact Like.refl h
theorem bel_len {D:List Dk} {n:Nat} {p:List By} (hD:∀d∈D,OkJ d.M∧d.M.z=32) {c:Nat} (hc:c<n):((belL D n p).getD c []).length=32:=by
 rw [belL_at,if_pos hc]
 exact seenC_len hD p c
theorem OkC.z {n room:Nat} {D:List Dk} (h:OkC 1 n room D):∀d∈D,OkJ d.M∧d.M.z=32:=fun d hd=>by
 obtain ⟨h1,h2,_⟩:=h.img d hd
 exact ⟨h1.toOkJ,by unfold Img.z;rw [h2]⟩
theorem OkC.bel {n room:Nat} {D:List Dk} (h:OkC 1 n room D) {d:Dk} (hd:d∈D) (p:List By):∀c,c<d.M.t.length→((belL D n p).getD c []).length=d.M.z:=fun c hc=>by
 rw [(h.z d hd).2]
 exact bel_len h.z (by rw [(h.img d hd).2.2.1] at hc;exact hc)
theorem OkC.like {n room:Nat} {D:List Dk} (h:OkC 1 n room D) {s:By} {d:Dk} (hd:d∈D) {M:Img} (hM:Like d.M M):OkC 1 n room (setM D s M):=by
 obtain ⟨h1,h2,h3,h4,h5⟩:=h.img d hd
 exact setM_ok h hM.ok (hM.B.trans h2) (hM.t.trans h3) (hM.room.trans h4) (hM.s.trans h5)
end Go.Proofs.YtffnihooekbcnaaGreat
namespace Go.Proofs.YtffnihooekbcnaaGreat
open Go.RowKit Go.Maps
attribute [local go_sem] mapAt_alloc mapAt_setCell mapAt_drew mapAt_drewN cells_str store_str eql_str neq_str guard_str len_str
section
variable {w w':World} {S:SimS} {p:List By}
theorem OkW.put (h:OkW S p) {s:By} {c:Cd} (hc:fK S.L s=some c) {p':Pl} {M:Img} (hM:Like c.x.M M):OkW { S with L:=setK S.L s p' M } p:=by
 have hcm:=(nlFind_mem hc).1
 exact ⟨by rw [show ({ S with L:=setK S.L s p' M }:SimS).L.map (·.x)=setM (S.L.map (·.x)) s M from setK_x _ _ _ _];exact h.ok.like (List.mem_map.2 ⟨c,hcm,rfl⟩) hM,by rw [show ({ S with L:=setK S.L s p' M }:SimS).L.map (·.x)=setM (S.L.map (·.x)) s M from setK_x _ _ _ _];exact path_setM h.path,h.n,h.deep⟩
theorem OkW.wr (h:OkW S p) {c:Cd} (hc:fK S.L S.s=some c) (a:Int) (b:By):Like c.x.M (wrRes S p c a b).2 :=
 writeE_like (h.ims c (nlFind_mem hc).1).1 (h.ok.bel (List.mem_map.2 ⟨c,(nlFind_mem hc).1,rfl⟩) p)
def mgL (l:List Bool) (r:Int) (a:Int) (g n:Nat):List Bool:=if r=0 then (if g=0 then l else markL l (touch a g) n) else l
theorem sChange_merge (h:SimW w S) (hO:OkW S p) (c:Cd) (hc:fK S.L S.s=some c) (b1 b2:Nat) (kd a g':Int) (g:Nat) (vb:Value) (b nm ot:By) (kv:Value) (h1:Blk w b1 [.pointer (some ⟨S.wb,0,none⟩)] 25) (h2:Blk w b2 (stepC kd a g' vb nm ot kv) 34)
 (hvb:SlY w vb b) (hvo:0<b.length→∀k,vb.ownBlock=some k→¬allF (simF S) k) (n1:¬allF (simF S) b1) (n2:¬allF (simF S) b2) (hg:g≤4611686018427387904) (jb mp:Nat) (bs:By) (l:List Bool) (hj:S.j=.merge jb mp bs l false) :
 Calls Tryz.prog 38 #[.pointer (some ⟨S.wb,0,none⟩),.int .i64 a,.int .i64 (g:Int),.func (.func 39) #[] #[.pointer (some ⟨b1,0,none⟩),.pointer (some ⟨b2,0,none⟩)]] w (chgPost w S (wrRes S p c a b) a (g:Int) fun A S'=>S'={ A with j:=.merge jb mp bs (mgL l (wrRes S p c a b).1 a g S.n) false }):=by
 have kW:=sWrite1_calls h hO c hc b1 b2 kd a g' vb b nm ot kv h1 h2 hvb hvo n1 n2
 have hgm:g≤maxLen:=Nat.le_trans hg (by decide)
 have c0:=h.cell
 have hpp:S.j.pp=.pointer none:=by rw [hj];rfl
 have hmp:S.j.mp=.pointer (some ⟨jb,0,none⟩):=by rw [hj];rfl
 unfold simC at c0
 rw [hmp,hpp] at c0
 have hO1:=fun p'=>hO.put hc (p':=p') (hO.wr hc a b)
 generalize wrRes S p c a b=r at kW hO1 ⊢
 clear hO hc h1 h2 hvb hvo n1 n2
 unfold chResPost at kW
 go_enter Tryz.func38,Tryz.ntmps38
 go_wp2_with fail
 refine kW.mono ?_
 rintro e w1 ⟨i,rfl,rfl,p',hch,hst⟩
 obtain ⟨hS1,hst1⟩:=h.chain hch hst
 clear kW hch hst c0
 have c1:=hS1.cell
 unfold simC at c1
 simp only [hmp,hpp] at c1
 have kd:=dWrite_calls S.db S.dm S.E a (g:Int) w1 hS1.dir (by omega)
 by_cases h0:r.1=0
 case neg =>
  have hfin:=hidIt (show ∃p' S',S'={ aftW S p' r a (g:Int) with j:=.merge jb mp bs (mgL l r.1 a g S.n) false }∧SimW w1 S'∧StepO w (allF (simF S)) w1 (allF (simF S')) from ⟨p',_,rfl,by unfold aftW mgL;rw [if_neg h0,if_neg h0,←hj];exact hS1,by unfold aftW mgL;rw [if_neg h0,if_neg h0,←hj];exact hst1⟩)
  clear hS1 hst1 kd h c1 hj
  go_wp2
  go_ret
  exact ⟨rfl,hfin.out⟩
 go_wp2_with fail
 refine kd.mono ?_
 rintro e w2 ⟨rfl,hD,hf2⟩
 obtain ⟨hS2,hst2⟩:=hS1.dirWr hD hf2
 have c2:=hS2.cell
 unfold simC at c2
 simp only [hmp,hpp] at c2
 have hJ:MgW w2 jb S.cb mp S.s bs l false∧jb≠mp∧l.length=S.n:=by
  have:=hS2.job
  simp only [hj] at this
  exact this
 obtain ⟨c',hc',_,_⟩:=(hO1 p').find
 have hmo:¬chO S.cb S.mb (setK S.L S.s p' r.2) mp:=fun hk=>hS2.sep.off 1 5 mp (by decide) hk (by
  show (S.j).o mp
  rw [hj]
  exact .inr rfl)
 have kM:=mWrote_calls S.n c' a g hS2.ch (hO1 p').ims hc' (hO1 p').max (by have:=(hO1 p').n;show S.n≤256;have h6:S.n≤6:=this.2;omega) hgm hJ.1 hJ.2.2 hJ.2.1 hmo
 clear hO1 hS1 hD hf2 c1 kd h hc'
 go_wp2_with fail
 refine kM.mono ?_
 rintro e w3 ⟨rfl,hM3,hf3⟩
 have hJ3:JobW w3 S.cb S.n S.s (.merge jb mp bs (mgL l r.1 a g S.n) false):=by
  unfold mgL
  rw [if_pos h0]
  exact ⟨hM3,hJ.2.1,by split;exact hJ.2.2;rw [markL_len];exact hJ.2.2⟩
 obtain ⟨hS3,hst3⟩:=hS2.jobJ (j':=.merge jb mp bs (mgL l r.1 a g S.n) false) (by show _=S.j.kind;rw [hj];rfl) (by show _=S.j.face;rw [hj];rfl) (by show _=S.j.mp;rw [hj];rfl) (by show _=S.j.pp;rw [hj];rfl) hJ3 ⟨⟨_,hf3,fun k hk _=>by show S.j.o k;rw [hj];exact .inr (List.mem_singleton.1 hk)⟩,fun k hk=>.inl (by show S.j.o k;rw [hj];exact hk)⟩
 have hfin:=hidIt (show ∃p' S',S'={ aftW S p' r a (g:Int) with j:=.merge jb mp bs (mgL l r.1 a g S.n) false }∧SimW w3 S'∧StepO w (allF (simF S)) w3 (allF (simF S')) from ⟨p',_,rfl,by unfold aftW;rw [if_pos h0];exact hS3,by unfold aftW;rw [if_pos h0];exact (hst1.trans hst2).trans hst3⟩)
 have c3:=hS3.cell
 unfold simC at c3
 simp only [JobS.pp] at c3
 clear hS2 hst1 hst2 kM c2 hS3 hst3 hM3 hf3 hJ hJ3 hj hmo
 go_wp2
 go_ret
 exact ⟨by rw [h0];rfl,hfin.out⟩
end
section
variable {w w':World} {S:SimS} {p:List By}
theorem doS_set (g S:Nat) (l:List Bool) (f n:Int):(doS g (S,l) (0,f,n)).1.1=S:=by
 unfold doS
 rw [if_pos rfl]
 split <;> rfl
def befS (S:SimS) (p:List By) (a:Int) (g:Nat) (l:List Bool) (G:Nat→Option By):List Bool × (Nat→Option By):=if g=0 then (l,G) else befP (viewK S.L S.n S.s p) (touch a g) l G
def sinS (sc:Option (Nat × Nat × List Bool)) (r:Int) (a:Int) (g n:Nat):Option (Nat × Nat × List Bool):=if r=0 then sc.map fun x=>(x.1,x.2.1,(doS 1 (2*n,x.2.2) (0,a,(g:Int))).1.2) else sc
theorem sinS_P (sc:Option (Nat × Nat × List Bool)) (r:Int) (a:Int) (g n:Nat):scP (sinS sc r a g n)=scP sc:=by
 unfold sinS
 split
 ·cases sc <;> rfl
 ·rfl
theorem phBef_any (a:Int) (g:Nat) {jb lm gm:Nat} {o:Nat→Prop} {l:List Bool} {G:Got} (h:SimW w S) (hO:OkW S p) (hj:S.j=.push jb lm gm o l G false) (hg:g≤maxLen) :
 Calls Tryz.prog 75 #[.pointer (some ⟨jb,0,none⟩),.int .i64 a,.int .i64 (g:Int)] w (phBefPost w jb lm gm S.cb S.n S.s o (befS S p a g l (unG G))):=by
 have hJ:PshW w jb lm gm S.cb S.n S.s o l G false false:=by
  have:=h.job
  rw [hj] at this
  exact this
 unfold befS
 by_cases h0:g=0
 ·rw [if_pos h0]
  exact phBefore_none a g hJ h0
 ·rw [if_neg h0]
  have hf:∀k,S.j.o k→¬chO S.cb S.mb S.L k:=fun k hk hc=>h.sep.off 1 5 k (by decide) hc hk
  rw [hj] at hf
  exact phBefore_calls a g hJ (by omega) hg (by have:=hO.n;omega) h.ch hO.ims hO.path hO.max (by have:=hO.deep;omega) ⟨hf lm (.inr (.inl rfl)),hf gm (.inr (.inr (.inl rfl)))⟩
theorem SimW.copies {jb lm gm:Nat} {o:Nat→Prop} {l:List Bool} {G:Got} {r:List Bool × (Nat→Option By)} (h:SimW w S) (hj:S.j=.push jb lm gm o l G false) (hc:phCopies w jb lm gm S.cb S.n S.s o r w') :
 ∃o' G',unG G'=r.2∧SimW w' { S with j:=.push jb lm gm o' r.1 G' false }∧StepO w (allF (simF S)) w' (allF (simF { S with j:=.push jb lm gm o' r.1 G' false }))∧Fr [lm,gm] w w':=by
 obtain ⟨o',G',hJ,hG,hn,hf⟩:=hc
 refine ⟨o',G',hG,?_⟩
 have:=h.jobJ (j':=.push jb lm gm o' r.1 G' false) (by rw [hj];rfl) (by rw [hj];rfl) (by rw [hj];rfl) (by rw [hj];rfl) hJ ⟨⟨_,hf,fun k hk _=>by
  rw [hj]
  simp at hk
  rcases hk with rfl | rfl
  ·exact .inr (.inl rfl)
  ·exact .inr (.inr (.inl rfl))⟩,fun k hk=>by
  rw [hj]
  rcases hk with rfl | rfl | rfl | hk
  ·exact .inl (.inl rfl)
  ·exact .inl (.inr (.inl rfl))
  ·exact .inl (.inr (.inr (.inl rfl)))
  ·rcases hn k hk with h1 | h1
   ·exact .inl (.inr (.inr (.inr h1)))
   ·exact .inr h1⟩
 exact ⟨this.1,this.2,hf⟩
theorem sChange_push (h:SimW w S) (hO:OkW S p) (c:Cd) (hc:fK S.L S.s=some c) (b1 b2:Nat) (kd a g':Int) (g:Nat) (vb:Value) (b nm ot:By) (kv:Value) (h1:Blk w b1 [.pointer (some ⟨S.wb,0,none⟩)] 25) (h2:Blk w b2 (stepC kd a g' vb nm ot kv) 34)
 (hvb:SlY w vb b) (hvo:0<b.length→∀k,vb.ownBlock=some k→¬allF (simF S) k) (n1:¬allF (simF S) b1) (n2:¬allF (simF S) b2) (hg:g≤4611686018427387904) (jb lm gm:Nat) (o:Nat→Prop) (l:List Bool) (G:Got) (hj:S.j=.push jb lm gm o l G false) :
 Calls Tryz.prog 38 #[.pointer (some ⟨S.wb,0,none⟩),.int .i64 a,.int .i64 (g:Int),.func (.func 39) #[] #[.pointer (some ⟨b1,0,none⟩),.pointer (some ⟨b2,0,none⟩)]] w
  (chgPost w S (wrRes S p c a b) a (g:Int) fun A S'=>∃o' G',unG G'=(befS S p a g l (unG G)).2∧S'={ A with j:=.push jb lm gm o' (befS S p a g l (unG G)).1 G' false,sc:=sinS S.sc (wrRes S p c a b).1 a g S.n }):=by
 have hgm:g≤maxLen:=Nat.le_trans hg (by decide)
 have kBf:=phBef_any a g h hO hj hgm
 have c0:=h.cell
 have hpp:S.j.pp=.pointer (some ⟨jb,0,none⟩):=by rw [hj];rfl
 have hmp:S.j.mp=.pointer none:=by rw [hj];rfl
 unfold simC at c0
 rw [hmp,hpp] at c0
 generalize befS S p a g l (unG G)=B at kBf ⊢
 have hnn:(2*S.n:Nat)≤4096:=by have:=hO.n;omega
 obtain ⟨r,hr⟩:∃r,Hid (wrRes S p c a b=r):=⟨_,hidIt rfl⟩
 rw [hr.out]
 go_enter Tryz.func38,Tryz.ntmps38
 go_wp2_with fail
 refine kBf.mono ?_
 rintro e w0 ⟨rfl,hcp⟩
 obtain ⟨o',G',hG,hS0,hst0,hf0⟩:=h.copies hj hcp
 have hlo:∀k,k∈[lm,gm]→allF (simF S) k:=fun k hk=>⟨5,by
  show S.j.o k
  rw [hj]
  simp at hk
  rcases hk with rfl | rfl
  ·exact .inr (.inl rfl)
  ·exact .inr (.inr (.inl rfl))⟩
 have kW:=sWrite1_calls hS0 (p:=p) ⟨hO.ok,hO.path,hO.n,hO.deep⟩ c hc b1 b2 kd a g' vb b nm ot kv (h1.fr hf0 fun hm=>n1 (hlo _ hm)) (h2.fr hf0 fun hm=>n2 (hlo _ hm))
  (SlF.frE hvb hf0 fun hp k hk hm=>hvo hp k hk (hlo _ hm)) (fun hp k hk=>hst0.out (hvo hp k hk) (hvb.lt (by rw [flatY_length];exact hp) k hk)) (hst0.out n1 h1.lt) (hst0.out n2 h2.lt)
 have hwr:wrRes { S with j:=.push jb lm gm o' B.1 G' false } p c a b=wrRes S p c a b:=rfl
 rw [hwr,hr.out] at kW
 clear kBf hcp hO hc h1 h2 hvb hvo n1 n2 hf0 hlo c0 hwr
 unfold chResPost at kW
 go_wp2_with fail
 refine kW.mono ?_
 rintro e w1 ⟨i,rfl,rfl,p',hch,hst⟩
 obtain ⟨hS1,hst1⟩:=hS0.chain hch hst
 have hst01:=hst0.trans hst1
 clear kW hch hst hst0 hst1
 have c1:=hS1.cell
 unfold simC at c1
 simp only [JobS.mp,JobS.pp] at c1
 have kd:=dWrite_calls S.db S.dm S.E a (g:Int) w1 hS1.dir (by omega)
 by_cases h0:r.1=0
 case neg =>
  have hfin:=hidIt (show ∃p' S',(∃o' G',unG G'=B.2∧S'={ aftW S p' r a (g:Int) with j:=.push jb lm gm o' B.1 G' false,sc:=sinS S.sc r.1 a g S.n })∧SimW w1 S'∧StepO w (allF (simF S)) w1 (allF (simF S')) from ⟨p',_,⟨o',G',hG,rfl⟩,by unfold aftW sinS;rw [if_neg h0,if_neg h0];exact hS1,by unfold aftW sinS;rw [if_neg h0,if_neg h0];exact hst01⟩)
  clear hS1 hst01 kd h c1 hj hS0
  go_wp2
  go_ret
  exact ⟨rfl,hfin.out⟩
 go_wp2_with fail
 refine kd.mono ?_
 rintro e w2 ⟨rfl,hD,hf2⟩
 obtain ⟨hS2,hst2⟩:=hS1.dirWr hD hf2
 have hst02:=hst01.trans hst2
 have c2:=hS2.cell
 unfold simC at c2
 simp only [JobS.mp,JobS.pp] at c2
 cases hsc:S.sc with
 | none =>
   have hfin:=hidIt (show ∃p' S',(∃o' G',unG G'=B.2∧S'={ aftW S p' r a (g:Int) with j:=.push jb lm gm o' B.1 G' false,sc:=sinS S.sc r.1 a g S.n })∧SimW w2 S'∧StepO w (allF (simF S)) w2 (allF (simF S')) from ⟨p',_,⟨o',G',hG,rfl⟩,by unfold aftW sinS;rw [if_pos h0,if_pos h0,hsc];rw [hsc] at hS2;exact hS2,by unfold aftW sinS;rw [if_pos h0,if_pos h0,hsc];rw [hsc] at hst02;exact hst02⟩)
   simp only [hsc,scP] at c2
   clear hS1 hst01 kd h c1 hj hS0 hS2 hst2 hst02 hD hf2 hsc
   go_wp2
   go_ret
   exact ⟨by rw [h0];rfl,hfin.out⟩
 | some x =>
 have hBx:BitW w2 x.1 x.2.1 (2*S.n) 1 x.2.2:=hS2.sin x hsc
 have kB:=bSet_calls x.1 x.2.1 (2*S.n) 1 x.2.2 a (g:Int) w2 hBx (by omega)
 rw [doS_set] at kB
 have hfin:=hidIt (fun (w3:World) (hB3:BitW w3 x.1 x.2.1 (2*S.n) 1 (doS 1 (2*S.n,x.2.2) (0,a,(g:Int))).1.2) (hf3:Fr [x.2.1] w2 w3)=>show ∃p' S',(∃o' G',unG G'=B.2∧S'={ aftW S p' r a (g:Int) with j:=.push jb lm gm o' B.1 G' false,sc:=sinS S.sc r.1 a g S.n })∧SimW w3 S'∧StepO w (allF (simF S)) w3 (allF (simF S')) from by
  have hsn:sinS S.sc r.1 a g S.n=some (x.1,x.2.1,(doS 1 (2*S.n,x.2.2) (0,a,(g:Int))).1.2):=by
   unfold sinS
   rw [if_pos h0,hsc]
   rfl
  have:=hS2.since (sc':=sinS S.sc r.1 a g S.n) (sinS_P _ _ _ _ _) (by
   rw [hsn]
   intro y hy
   cases hy
   exact hB3) ⟨⟨_,hf3,fun k hk _=>by
    show sinO S.sc k
    rw [hsc]
    exact .inr (List.mem_singleton.1 hk)⟩,fun k hk=>.inl (by
    show sinO S.sc k
    rw [hsn] at hk
    rw [hsc]
    exact hk)⟩
  exact ⟨p',_,⟨o',G',hG,rfl⟩,by unfold aftW;rw [if_pos h0];exact this.1,by unfold aftW;rw [if_pos h0];exact hst02.trans this.2⟩)
 simp only [hsc,scP] at c2
 clear hS1 hst01 kd h c1 hj hS0 hS2 hst2 hst02 hD hf2 hsc hBx
 go_wp2_with fail
 refine kB.mono ?_
 rintro e w3 ⟨rfl,hB3,hf3⟩
 have hfin:=hidIt (hfin.out w3 hB3 hf3)
 clear kB hB3 hf3
 go_wp2
 go_ret
 exact ⟨by rw [h0];rfl,hfin.out⟩
end
end Go.Proofs.YtffnihooekbcnaaGreat
