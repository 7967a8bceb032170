/-
  Package bits: Decode.
-/
import Derived.Test.YtffnihooekbcnaaGreatG30
set_option maxRecDepth 100000
set_option maxHeartbeats 6400000
namespace Go.Proofs.YtffnihooekbcnaaGreat
open Go.RowKit Go.Maps
attribute [local go_sem] mapAt_alloc mapAt_setCell mapAt_drew mapAt_drewN
def rdSt (bs:List UInt8) (j:Nat):List UInt8 × Int:=if 3+j≤bs.length then (bs.drop (3+j),0) else ([],10)
theorem rdSt_num (bs:List UInt8) (j:Nat):rdNum (rdSt bs j).1 (rdSt bs j).2 1=((rdSt bs (j+1)).1,(rdSt bs (j+1)).2,(bs.getD (3+j) 0).toNat):=by
 unfold rdSt
 by_cases h:3+j≤bs.length
 ·rw [if_pos h]
  by_cases h1:3+(j+1)≤bs.length
  ·rw [if_pos h1]
   unfold rdNum
   rw [if_neg (by simp),if_neg (by rw [List.length_drop];omega),List.drop_drop]
   have hd:bs.drop (3+j)=bs.getD (3+j) 0 :: bs.drop (3+j+1):=by
    rw [List.drop_eq_getElem_cons (by omega:3+j<bs.length),List.getD_eq_getElem?_getD,List.getElem?_eq_getElem (by omega:3+j<bs.length)]
    rfl
   have hv:valL ((bs.drop (3+j)).take 1)=(bs.getD (3+j) 0).toNat:=by
    rw [hd]
    simp [valL]
   rw [hv]
   rfl
  ·rw [if_neg h1]
   have he:bs.drop (3+j)=[]:=List.drop_of_length_le (by omega)
   have hz:bs.getD (3+j) 0=0:=by rw [List.getD_eq_getElem?_getD,List.getElem?_eq_none (by omega)];rfl
   rw [he,hz]
   rfl
 ·rw [if_neg h,if_neg (by omega)]
  have hz:bs.getD (3+j) 0=0:=by rw [List.getD_eq_getElem?_getD,List.getElem?_eq_none (by omega)];rfl
  rw [hz]
  rfl
theorem rdSt_end (bs:List UInt8) (j:Nat):rdEnd (rdSt bs j).1 (rdSt bs j).2=if bs.length=3+j then 0 else if 3+j<bs.length then 11 else 10:=by
 unfold rdSt rdEnd
 by_cases h:3+j≤bs.length
 ·rw [if_pos h]
  simp only [List.length_drop]
  by_cases e:bs.length=3+j
  ·rw [if_pos e,if_neg (by omega)]
  ·rw [if_neg e,if_pos ⟨trivial,by omega⟩,if_pos (by omega)]
 ·rw [if_neg h,if_neg (by omega),if_neg (by omega)]
  simp
  omega
def decP (bs:List UInt8) (n m:Nat):List Bool:=(List.range n).map fun i=>decide (i<m) && bitB bs i
theorem decP_length (bs:List UInt8) (n m:Nat):(decP bs n m).length=n:=by simp [decP]
theorem decP_zero (bs:List UInt8) (n:Nat):decP bs n 0=List.replicate n false:=by
 apply List.ext_getElem
 ·simp [decP]
 ·intro i h1 h2
  simp [decP]
theorem decP_all {bs:List UInt8} {n m:Nat} (h:n≤m):decP bs n m=decL bs n:=by
 unfold decP decL
 apply List.map_congr_left
 intro i hi
 rw [List.mem_range] at hi
 rw [decide_eq_true (by omega),Bool.true_and]
theorem decP_out {bs:List UInt8} {n m:Nat} (h:bitB bs m=false):decP bs n (m+1)=decP bs n m:=by
 unfold decP
 apply List.map_congr_left
 intro i _
 by_cases e:i=m
 ·subst e;rw [h];simp
 ·congr 1
  by_cases h1:i<m
  ·rw [decide_eq_true h1,decide_eq_true (by omega)]
  ·rw [decide_eq_false h1,decide_eq_false (by omega)]
theorem decP_set {bs:List UInt8} {n m:Nat} (h:bitB bs m=true):decP bs n (m+1)=(decP bs n m).set m true:=by
 apply List.ext_getElem
 ·simp [decP]
 ·intro i h1 h2
  rw [List.getElem_set]
  simp only [decP,List.getElem_map,List.getElem_range]
  by_cases e:m=i
  ·subst e;rw [if_pos rfl,h];simp
  ·rw [if_neg e]
   congr 1
   by_cases h1:i<m
   ·rw [decide_eq_true h1,decide_eq_true (by omega)]
   ·rw [decide_eq_false h1,decide_eq_false (by omega)]
theorem and_bit (n k:Nat) (hn:n<256):(bits .and .i64 ((n:Int) / 2 ^ k) 1 == 0)=!(n / 2 ^ k % 2 == 1):=by
 have e0:(n:Int) / 2 ^ k=((n / 2 ^ k:Nat):Int):=by
  rw [show (2:Int) ^ k=((2 ^ k:Nat):Int) from (Int.natCast_pow 2 k).symm]
  omega
 have hle:n / 2 ^ k≤n:=Nat.div_le_self _ _
 rw [e0]
 generalize n / 2 ^ k=x at *
 have key:∀m:Fin 256,(bits BinOp.and IntKind.i64 (m.val:Int) 1 == 0)=!(m.val % 2 == 1):=by decide
 exact key ⟨x,by omega⟩
def bDecPost (w:World) (bs:List UInt8) (e:Ending) (w':World):Prop :=
 (∃S g l tb mb,goodB S g l∧encB S g l=bs∧e=.returned (.tuple #[.pointer (some ⟨tb,0,none⟩),.int .i64 0])∧w.heap.size≤tb∧w.heap.size≤mb∧BitW w' tb mb S g l∧Fr [] w w') ∨
   ((∀S g l,goodB S g l→encB S g l≠bs)∧e=.returned (.tuple #[.pointer none,.int .i64 100])∧Fr [] w w')
theorem bhead_short {bs:List UInt8} (h:bs.length<3):(rdNum (rdNum bs 0 2).1 (rdNum bs 0 2).2.1 1).2.1=10:=by
 by_cases h2:bs.length<2
 ·have e:rdNum bs 0 2=(bs,10,0):=by simp [rdNum,h2]
  rw [e]
  simp [rdNum]
 ·have e:rdNum bs 0 2=(bs.drop 2,0,valL (bs.take 2)):=by simp [rdNum,h2]
  have h3:bs.length - 2<1:=by omega
  rw [e]
  simp [rdNum,h3]
theorem bhead_long {bs:List UInt8} (h:3≤bs.length):rdNum bs 0 2=(bs.drop 2,0,valL (bs.take 2))∧rdNum (bs.drop 2) 0 1=((rdSt bs 0).1,(rdSt bs 0).2,valL ((bs.drop 2).take 1)):=by
 constructor
 ·unfold rdNum
  rw [if_neg (by simp),if_neg (by omega)]
 ·unfold rdNum rdSt
  rw [if_neg (by simp),if_neg (by rw [List.length_drop];omega),List.drop_drop,if_pos (by omega)]
theorem bDec_no (v:Value) (bs:List UInt8) (w:World) (hv:SlY w v bs) (hok:okV v) (hl:bs.length≤100000) (l1 l2:List UInt8) (e1 e2:Int) (S g:Nat) (h1:rdNum bs 0 2=(l1,e1,S)) (h2:rdNum l1 e1 1=(l2,e2,g)) (hno:okNew S g=false∨e2=10)
 (Hno:Hid (∀S g l,goodB S g l→encB S g l≠bs)):Calls Tryz.prog 110 #[v] w (bDecPost w bs):=by
 obtain ⟨a,cap,rfl,_,hcm,_⟩:=hv.open
 have kN1:=fun rb vb X h=>Num_calls 2 (by omega) rb vb bs 0 X h
 have kN2:=fun rb vb X h=>Num_calls 1 (by omega) rb vb l1 e1 X h
 have kNR:=NewReader_calls _ bs w hv hok (by omega)
 rw [h1] at kN1
 rw [h2] at kN2
 clear h1 h2
 simp only at kN1 kN2
 cases hn:okNew S g with
 | false =>
   go_enter Tryz.func110,Tryz.ntmps110
   go_wp2_with fail
   refine kNR.mono ?_
   rintro e w1 ⟨rb,vb,rfl,h1,h2,hR,hf1⟩
   go_wp2_with fail
   refine (kN1 rb vb _ hR).mono ?_
   rintro e w2 ⟨rfl,hR2,hf2⟩
   go_wp2_with fail
   refine (kN2 rb vb _ hR2).mono ?_
   rintro e w3 ⟨rfl,hR3,hf3⟩
   go_wp2_with fail
   refine (bNew_no _ _ _ hn).mono ?_
   rintro e w4 ⟨rfl,rfl⟩
   go_wp2
   go_ret2
   exact .inr ⟨Hno.out,rfl,(hf1.trans hf2 (fun x hx hl=>by simp at hx;omega)).trans hf3 (fun x hx hl=>by simp at hx;omega)⟩
 | true =>
   have he2:e2=10:=by
    rcases hno with h | h
    ·rw [hn] at h;cases h
    ·exact h
   subst he2
   go_enter Tryz.func110,Tryz.ntmps110
   go_wp2_with fail
   refine kNR.mono ?_
   rintro e w1 ⟨rb,vb,rfl,h1,h2,hR,hf1⟩
   go_wp2_with fail
   refine (kN1 rb vb _ hR).mono ?_
   rintro e w2 ⟨rfl,hR2,hf2⟩
   go_wp2_with fail
   refine (kN2 rb vb _ hR2).mono ?_
   rintro e w3 ⟨rfl,hR3,hf3⟩
   go_wp2_with fail
   refine (bNew_yes _ _ _ hn).mono ?_
   rintro e w4 ⟨tb,mb,rfl,ht,hm,hT,hf4⟩
   go_wp2_with fail
   refine (Err_calls rb vb l2 10 _ (hR3.fr0 hf4)).mono ?_
   rintro e w5 ⟨rfl,rfl⟩
   go_wp2
   go_ret2
   exact .inr ⟨Hno.out,rfl,((hf1.trans hf2 (fun x hx hl=>by simp at hx;omega)).trans hf3 (fun x hx hl=>by simp at hx;omega)).trans0 hf4⟩
theorem bDec_yes (v:Value) (bs:List UInt8) (w:World) (hv:SlY w v bs) (hok:okV v) (h3:3≤bs.length) (hl:bs.length≤100000) (S g:Nat) (hS:valL (bs.take 2)=S) (hg:valL ((bs.drop 2).take 1)=g) (hn:okNew S g=true) :
 Calls Tryz.prog 110 #[v] w (bDecPost w bs):=by
 obtain ⟨a,cap,rfl,_,hcm,_⟩:=hv.open
 obtain ⟨h1,h2⟩:=bhead_long h3
 have kN1:=fun rb vb X h=>Num_calls 2 (by omega) rb vb bs 0 X h
 have kN2:=fun rb vb X h=>Num_calls 1 (by omega) rb vb (bs.drop 2) 0 X h
 have kNR:=NewReader_calls _ bs w hv hok (by omega)
 have kB:=fun j rb vb X h=>Num_calls 1 (by omega) rb vb (rdSt bs j).1 (rdSt bs j).2 X h
 rw [h1] at kN1
 rw [h2] at kN2
 simp only at kN1 kN2
 rw [hS] at kN1
 rw [hg] at kN2
 have he2:(rdSt bs 0).2=0:=by unfold rdSt;rw [if_pos (by omega)]
 have hsg:S≤4096∧pow2 (g:Int)=true:=by
  simp [okNew,okSec] at hn
  exact ⟨by omega,hn.2⟩
 have hgle:=pow2_le hsg.2
 have hgr:=gran_le hsg.1 (by omega:0<g)
 have Hbad:Hid (∀i,gran S g≤i→bitB bs i=true→∀S g l,goodB S g l→encB S g l≠bs):=hidIt (fun i hi hb S' g' l' hgd e=>by
  obtain ⟨a1,a2,a3,a4⟩:=goodB_small hgd
  have e1:S'=S:=by rw [←hS,←e,encB_S a1]
  have e2:g'=g:=by rw [←hg,←e,encB_g (by omega)]
  subst e1;subst e2
  by_cases hi8:i / 8<nbB l'.length
  ·rw [←e,encB_bit hi8,List.getD_eq_getElem?_getD,List.getElem?_eq_none (by rw [hgd.2.2];exact hi)] at hb
   cases hb
  ·have hz:bs.getD (3+i / 8) 0=0:=by rw [List.getD_eq_getElem?_getD,List.getElem?_eq_none (by rw [←e,encB_length];omega)];rfl
   unfold bitB at hb
   rw [hz] at hb
   simp at hb)
 have Hlen:Hid (bs.length≠3+nbB (gran S g)→∀S g l,goodB S g l→encB S g l≠bs):=hidIt (fun hln S' g' l' hgd e=>by
  obtain ⟨a1,a2,a3,a4⟩:=goodB_small hgd
  have e1:S'=S:=by rw [←hS,←e,encB_S a1]
  have e2:g'=g:=by rw [←hg,←e,encB_g (by omega)]
  subst e1;subst e2
  rw [←e,encB_length,hgd.2.2] at hln
  exact hln rfl)
 have Hyes:Hid (bs.length=3+nbB (gran S g)→(∀i,gran S g≤i→i / 8<nbB (gran S g)→bitB bs i=false)→goodB S g (decL bs (gran S g))∧encB S g (decL bs (gran S g))=bs):=hidIt (fun h h0 =>
  ⟨⟨hsg.1,hsg.2,decL_length _ _⟩,encB_of hS hg h h0⟩)
 clear h1 h2 hS hg
 generalize bs.drop 2=l1 at *
 go_enter Tryz.func110,Tryz.ntmps110
 go_wp2_with fail
 refine kNR.mono ?_
 rintro e w1 ⟨rb,vb,rfl,h1,h2,hR,hf1⟩
 have hR1:=hR.lt
 go_wp2_with fail
 refine (kN1 rb vb _ hR).mono ?_
 rintro e w2 ⟨rfl,hR2,hf2⟩
 go_wp2_with fail
 refine (kN2 rb vb _ hR2).mono ?_
 rintro e w3 ⟨rfl,hR3,hf3⟩
 have hz2:=hf2.size
 have hz3:=hf3.size
 have hF3:=(hf1.trans hf2 (fun x hx hl=>by simp at hx;omega)).trans hf3 (fun x hx hl=>by simp at hx;omega)
 go_wp2_with fail
 refine (bNew_yes _ _ _ hn).mono ?_
 rintro e w4 ⟨tb,mb,rfl,ht,hm,hT,hf4⟩
 replace hT:BitW w4 tb mb S g (List.replicate (gran S g) false):=hT
 have hR4:=hR3.fr0 hf4
 have hF4:=hF3.trans0 hf4
 have kErr:=Err_calls rb vb _ _ _ hR4
 rw [he2] at kErr
 rw [←decP_zero bs] at hT
 have hz4:=hf4.size
 go_wp2_with fail
 refine kErr.mono ?_
 rintro e w5 ⟨rfl,rfl⟩
 clear kNR kN1 kN2 kErr hR hR2 hR3 hf1 hf2 hf3 hf4 hF3 he2
 have hne:=hT.ne
 go_wp2_with fail
 go_loopw [7] (fun i wr=>∃j A:Nat,Hid (A=8*j)∧j≤nbB (gran S g)∧i=.int .i64 (A:Int)∧BitW wr tb mb S g (decP bs (gran S g) A)∧Hid (∀i,gran S g≤i→i<A→bitB bs i=false)∧RdW wr rb vb (rdSt bs j).1 (rdSt bs j).2∧Fr [] w wr) (fun i _=>10000 - (intOf i).toNat)
 case atStart=>exact ⟨0,0,rfl,Nat.zero_le _,rfl,hT,hidIt (fun i _ h=>by omega),hR4,hF4⟩
 case round =>
  clear hT hR4 hF4
  obtain ⟨j,A,hA,hj,rfl,hT,h0,hR,hF⟩:=hrel
  have hzr:=hF.size
  have hlt2:=hT.lt
  have hA6:A≤5000:=by have:=hA.out;unfold nbB at hj;omega
  go_wp2_with fail
  refine (granules_calls tb mb S g _ _ hT).mono ?_
  rintro e w6 ⟨rfl,hf6⟩
  have hT6:=hT.fr0 hf6
  have hR6:=hR.fr0 hf6
  have hF6:=hF.trans0 hf6
  have hz6:=hf6.size
  clear hT hR hF hf6
  by_cases hlt:A<gran S g
  ·have kN:=kB j rb vb w6 hR6
   rw [rdSt_num] at kN
   simp only at kN
   have Hb:∀k,k<8→Hid (bitB bs (A+k)=((bs.getD (3+j) 0).toNat / 2 ^ k % 2 == 1)):=fun k hk=>hidIt (by
    unfold bitB
    have:=hA.out
    rw [show (A+k) / 8=j by omega,show (A+k) % 8=k by omega])
   have hby:=(bs.getD (3+j) 0).toNat_lt
   generalize (bs.getD (3+j) 0).toNat=N at *
   go_wp2_with fail
   refine kN.mono ?_
   rintro e w7 ⟨rfl,hR7,hf7⟩
   have hT7:=hT6.fr hf7 (by simp;omega) (by simp;omega)
   have hF7:=hF6.trans hf7 (fun x hx hl=>by simp at hx;omega)
   have hz7:=hf7.size
   generalize HRR:rdSt bs (j+1)=R at *
   replace HRR:=hidIt HRR
   clear kN hT6 hR6 hF6 hf7
   go_wp2_with fail
   go_loopw [9,35] (fun _ i wr2=>∃k:Nat,k≤8∧i=.int .i64 (k:Int)∧BitW wr2 tb mb S g (decP bs (gran S g) (A+k))∧Hid (∀i,gran S g≤i→i<A+k→bitB bs i=false)∧RdW wr2 rb vb R.1 R.2∧w.heap.size≤wr2.heap.size∧Fr [] w wr2) (fun _ i _=>8 - (intOf i).toNat)
   case atStart=>exact ⟨0,by omega,rfl,hT7,h0,hR7,by omega,hF7⟩
   case round =>
    clear hT7 h0 hR7 hF7
    obtain ⟨k,hk,rfl,hT,h0,hR,hzz,hF⟩:=hrel
    by_cases hk8:k<8
    ·have hb:=Hb k hk8
     have hand:=and_bit N k hby
     have c:=hT.blk.cell
     cases hq:(N / 2 ^ k % 2 == 1) with
     | false =>
       rw [hq] at hand hb
       have Hout:=hidIt (decP_out (bs:=bs) (n:=gran S g) (m:=A+k) hb.out)
       have h0':Hid (∀i,gran S g≤i→i<A+k+1→bitB bs i=false):=hidIt (fun i h1 h2=>by
        by_cases e:i=A+k
        ·subst e;exact hb.out
        ·exact h0.out i h1 (by omega))
       clear Hb hb h0
       go_wp2
       go_roundw
       case rel=>exact ⟨k+1,by omega,by go_num,by rw [←Nat.add_assoc,Hout.out];exact hT,h0',hR,hzz,hF⟩
       case measure=>simp [intOf];omega
     | true =>
       rw [hq] at hand hb
       by_cases hin:A+k<gran S g
       ·have hin':¬(gran S g:Int)≤(A:Int)+(k:Int):=by omega
        have Hset:=hidIt (decP_set (bs:=bs) (n:=gran S g) (m:=A+k) hb.out)
        have h0':Hid (∀i,gran S g≤i→i<A+k+1→bitB bs i=false):=hidIt (fun i h1 h2=>h0.out i h1 (by omega))
        have hdl:=decP_length bs (gran S g) (A+k)
        clear Hb hb h0
        generalize decP bs (gran S g) (A+k)=L at *
        go_wp2_with fail
        refine (granules_calls tb mb S g _ _ hT).mono ?_
        rintro e w8 ⟨rfl,hf8⟩
        have hT8:=hT.fr0 hf8
        have hR8:=hR.fr0 hf8
        have hF8:=hF.trans0 hf8
        have c8:=hT8.blk.cell
        have hz8:=hf8.size
        obtain ⟨es,clock,hm8,hi8⟩:=hT8.map
        clear hT hR hF hf8 c
        go_wp2_with (refine wpList_mapUpdate_isM rfl _ _ _ 138 rfl Tryz.underlying138 bKeyInt hi8 mb rfl _ rfl _ rfl (bKeyI (by omega) (by omega)) hm8 ?_;intro es' clock' hi')
        have hfp:Fr [mb] w8 (putMap w8 mb es' clock'):=(Fr.refl _ w8).trans (putMap_fr _ _ _ _) (by simp)
        rw [show (A:Int)+(k:Int)=((A+k:Nat):Int) by omega] at hi'
        have hT9:=BitW_set (b:=true) hT8 (by omega:A+k<L.length) hfp (mapAt_putMap (mapAt_lt hm8) _ _) hi'
        have hR9:=hR8.fr hfp (by simp;omega) (by simp;omega)
        have hF9:=hF8.trans hfp (fun x hx hl=>by simp at hx;omega)
        have hz9:=hfp.size
        clear hT8 hR8 hF8 hi8 hi' hm8 c8 hfp
        generalize putMap w8 mb es' clock'=w9 at *
        go_wp2
        go_roundw
        case rel=>exact ⟨k+1,by omega,by go_num,by rw [←Nat.add_assoc,Hset.out];exact hT9,h0',hR9,by omega,hF9⟩
        case measure=>simp [intOf];omega
       ·have hin':(gran S g:Int)≤(A:Int)+(k:Int):=by omega
        have hno:=hidIt (Hbad.out (A+k) (by omega) hb.out)
        clear Hb hb h0
        go_wp2_with fail
        refine (granules_calls tb mb S g _ _ hT).mono ?_
        rintro e w8 ⟨rfl,hf8⟩
        go_wp2
        go_ret2
        exact .inr ⟨hno.out,rfl,hF.trans0 hf8⟩
    ·have hk8:k=8:=by omega
     subst hk8
     clear Hb
     go_wp2
     go_roundw
     case rel=>exact ⟨j+1,A+8,by have:=hA.out;exact hidIt (by omega),by have:=hA.out;unfold nbB;omega,by go_num,hT,h0,by rw [HRR.out];exact hR,hF⟩
     case measure=>simp [intOf];omega
  ·have hje:j=nbB (gran S g):=by have:=hA.out;unfold nbB at hj ⊢;omega
   have kE:=End_calls rb vb _ _ w6 hR6
   rw [rdSt_end] at kE
   have hall:=decP_all (bs:=bs) (n:=gran S g) (m:=A) (by omega)
   rw [hall] at hT6
   by_cases hbl:bs.length=3+j
   ·rw [if_pos hbl] at kE
    have hy:=hidIt (Hyes.out (by rw [hbl,hje]) (fun i h1 h2=>h0.out i h1 (by rw [←hje] at h2;have:=hA.out;omega)))
    clear hbl hje hall h0
    generalize decL bs (gran S g)=L at *
    go_wp2_with fail
    refine kE.mono ?_
    rintro e w8 ⟨rfl,rfl⟩
    go_wp2
    go_ret2
    exact .inl ⟨S,g,L,tb,mb,hy.out.1,hy.out.2,rfl,by omega,by omega,hT6,hF6⟩
   ·rw [if_neg hbl] at kE
    have hno:=hidIt (Hlen.out (by rw [←hje];exact hbl))
    have hq:∃q:Int,(if 3+j<bs.length then 11 else 10:Int)=q∧(q != 0)=true:=by
     split
     ·exact ⟨11,rfl,rfl⟩
     ·exact ⟨10,rfl,rfl⟩
    obtain ⟨q,hq1,hq2⟩:=hq
    rw [hq1] at kE
    clear hbl hje hall h0 hq1
    go_wp2_with fail
    refine kE.mono ?_
    rintro e w8 ⟨rfl,rfl⟩
    go_wp2
    go_ret2
    exact .inr ⟨hno.out,rfl,hF6⟩
theorem bDec_calls (v:Value) (bs:List UInt8) (w:World) (hv:SlY w v bs) (hok:okV v) (hl:bs.length≤100000):Calls Tryz.prog 110 #[v] w (bDecPost w bs):=by
 by_cases h3:bs.length<3
 ·exact bDec_no v bs w hv hok hl _ _ _ _ _ _ rfl rfl (.inr (bhead_short h3)) (hidIt (fun S g l _ e=>by rw [←e,encB_length] at h3;omega))
 ·obtain ⟨h1,h2⟩:=bhead_long (bs:=bs) (by omega)
  cases hn:okNew (valL (bs.take 2):Int) (valL ((bs.drop 2).take 1):Int) with
  | true=>exact bDec_yes v bs w hv hok (by omega) hl _ _ rfl rfl hn
  | false =>
    refine bDec_no v bs w hv hok hl _ _ _ _ _ _ h1 h2 (.inl hn) (hidIt (fun S g l hgd e=>?_))
    obtain ⟨a1,a2,a3,a4⟩:=goodB_small hgd
    rw [←e,encB_S a1,encB_g (by omega)] at hn
    simp [okNew,okSec,hgd.2.1] at hn
    have:=hgd.1
    omega
end Go.Proofs.YtffnihooekbcnaaGreat
namespace Go.Proofs.YtffnihooekbcnaaGreat
open Go.RowKit Go.Maps
def Reads (bs:List UInt8) (n k:Nat) (E0:List Ent) (l:List UInt8) (e:Int):Prop :=
 ∀E,OkD E→encD E true=bs→n=E.length∧E0=E.take k∧e=0∧l=(E.drop k).flatMap (encE true)
theorem Reads.start {bs l:List UInt8} {e:Int} {n:Nat} (h:rdNum bs 0 1=(l,e,n)):Reads bs n 0 [] l e:=by
 intro E hE hb
 subst hb
 have hf:=hE.few
 unfold encD at h
 rw [rdNum_of _ (by (show E.length<256);omega)] at h
 cases h
 exact ⟨rfl,rfl,rfl,rfl⟩
theorem Reads.next {bs l:List UInt8} {e:Int} {n k:Nat} {E0:List Ent} (h:Reads bs n k E0 l e) (hk:k<n) {l1 l2 l3 l4 s y:List UInt8} {e1 e2 e3 e4:Int} {a b:Nat}
 (h1:rdText l e 1=(l1,e1,s)) (h2:rdNum l1 e1 1=(l2,e2,a)) (h3:rdNum l2 e2 1=(l3,e3,b)) (h4:rdText l3 e3 2=(l4,e4,y)) :
 ∀E,OkD E→encD E true=bs→∃x,OkE x∧x.name=s∧a=bn x.on∧b=bn x.use∧y=encB x.S x.g x.l∧(∀d∈E0,d.name<s)∧E0.length<8∧E.take (k+1)=E0++[x]∧n=E.length∧e4=0∧l4=(E.drop (k+1)).flatMap (encE true):=by
 intro E hE hb
 obtain ⟨rfl,rfl,rfl,rfl⟩:=h E hE hb
 have hx:=hE.all _ (List.getElem_mem hk)
 have hd:=List.drop_eq_getElem_cons hk
 have ht:=List.take_succ_eq_append_getElem hk
 have hr:=hE.rising
 rw [←List.take_append_drop k E,List.pairwise_append] at hr
 have hlt:∀d∈E.take k,d.name<(E[k]'hk).name:=fun d hd'=>hr.2.2 d hd' _ (by rw [hd];exact List.mem_cons_self)
 rw [hd,List.flatMap_cons] at h1
 generalize E[k]'hk=x at *
 have hs:=okName_len hx.name
 have hsh:=hx.short
 unfold encE at h1
 rw [List.append_assoc,List.append_assoc,rdText_of _ _ (by (show _<256);omega)] at h1
 cases h1
 rw [List.append_assoc,rdNum_of _ (bn_lt _)] at h2
 cases h2
 rw [List.append_assoc,rdNum_of _ (bn_lt _)] at h3
 cases h3
 rw [List.append_assoc,rdText_of _ _ (by (show _<65536);omega)] at h4
 cases h4
 refine ⟨x,hx,rfl,rfl,by rw [Bool.and_true],rfl,hlt,?_,ht,rfl,rfl,rfl⟩
 have:=hE.few
 rw [List.length_take]
 omega
theorem rdNum_short (l:List UInt8) (e:Int) (W:Nat):(rdNum l e W).1.length≤l.length:=by
 unfold rdNum
 split
 ·exact Nat.le_refl _
 ·split
  ·exact Nat.le_refl _
  ·simp
theorem rdTake_short (l:List UInt8) (e n:Int) (am:Bool):(rdTake l e n am).1.length≤l.length∧(rdTake l e n am).2.2.length≤l.length:=by
 unfold rdTake
 split
 ·simp
 ·split
  ·simp
  ·split
   ·simp
   ·simp;omega
theorem rdText_short (l:List UInt8) (e:Int) (W:Nat):(rdText l e W).1.length≤l.length∧(rdText l e W).2.2.length≤l.length:=by
 have h1:=rdNum_short l e W
 have h2:=rdTake_short (rdNum l e W).1 (rdNum l e W).2.1 ((rdNum l e W).2.2:Int) false
 unfold rdText
 omega
theorem insE_last {x:Ent}:∀{E:List Ent},(∀d∈E,d.name<x.name)→insE x E=E++[x]
 | [],_=>rfl
 | d :: l,h=>by
   have h1:=h d List.mem_cons_self
   simp only [insE,if_neg (fun h2=>List.lt_irrefl _ (List.lt_trans h1 h2))]
   rw [insE_last fun y hy=>h y (List.mem_cons_of_mem _ hy)]
   rfl
theorem bn_one (b:Bool):(((bn b:Nat):Int) == 1)=b:=by cases b <;> rfl
def rdE (s:List UInt8) (a b S g:Nat) (l:List Bool):Ent:=⟨s,((a:Int) == 1),((b:Int) == 1),S,g,l⟩
theorem Reads.step {bs l:List UInt8} {e:Int} {n k:Nat} {E0:List Ent} (h:Reads bs n k E0 l e) (hk:k<n) {l1 l2 l3 l4 s y:List UInt8} {e1 e2 e3 e4:Int} {a b:Nat}
 (h1:rdText l e 1=(l1,e1,s)) (h2:rdNum l1 e1 1=(l2,e2,a)) (h3:rdNum l2 e2 1=(l3,e3,b)) (h4:rdText l3 e3 2=(l4,e4,y))
 {S g:Nat} {m:List Bool} (hg:goodB S g m) (hy:encB S g m=y):Reads bs n (k+1) (insE (rdE s a b S g m) E0) l4 e4:=by
 intro E hE hb
 obtain ⟨x,hx,rfl,rfl,rfl,rfl,hlt,_,ht,hn,he,hl⟩:=h.next hk h1 h2 h3 h4 E hE hb
 obtain ⟨rfl,rfl,rfl⟩:=encB_inj hg ⟨hx.size,hx.pow,hx.len⟩ hy
 refine ⟨hn,?_,he,hl⟩
 have e1:rdE x.name (bn x.on) (bn x.use) x.S x.g x.l=x:=by unfold rdE;rw [bn_one,bn_one]
 rw [e1,insE_last hlt,ht]
theorem Reads.noBits {bs l:List UInt8} {e:Int} {n k:Nat} {E0:List Ent} (h:Reads bs n k E0 l e) (hk:k<n) {l1 l2 l3 l4 s y:List UInt8} {e1 e2 e3 e4:Int} {a b:Nat}
 (h1:rdText l e 1=(l1,e1,s)) (h2:rdNum l1 e1 1=(l2,e2,a)) (h3:rdNum l2 e2 1=(l3,e3,b)) (h4:rdText l3 e3 2=(l4,e4,y)) (hno:∀S g m,goodB S g m→encB S g m≠y):∀E,OkD E→encD E true≠bs:=by
 intro E hE hb
 obtain ⟨x,hx,_,_,_,hy,_⟩:=h.next hk h1 h2 h3 h4 E hE hb
 exact hno _ _ _ ⟨hx.size,hx.pow,hx.len⟩ hy.symm
theorem Reads.noName {bs l:List UInt8} {e:Int} {n k:Nat} {E0:List Ent} (h:Reads bs n k E0 l e) (hk:k<n) {l1 l2 l3 l4 s y:List UInt8} {e1 e2 e3 e4:Int} {a b:Nat}
 (h1:rdText l e 1=(l1,e1,s)) (h2:rdNum l1 e1 1=(l2,e2,a)) (h3:rdNum l2 e2 1=(l3,e3,b)) (h4:rdText l3 e3 2=(l4,e4,y)) (hno:okName s=false∨findE E0 s≠none∨8≤E0.length):∀E,OkD E→encD E true≠bs:=by
 intro E hE hb
 obtain ⟨x,hx,rfl,_,_,_,hlt,h8,_⟩:=h.next hk h1 h2 h3 h4 E hE hb
 rcases hno with h | h | h
 ·rw [hx.name] at h;cases h
 ·refine h ?_
  unfold findE
  rw [List.find?_eq_none]
  intro d hd
  have:=hlt d hd
  simp only [decide_eq_true_eq]
  intro h2
  rw [h2] at this
  exact List.lt_irrefl _ this
 ·omega
theorem Reads.done {bs l:List UInt8} {e:Int} {n:Nat} {E0:List Ent} (h:Reads bs n n E0 l e):∀E,OkD E→encD E true=bs→E=E0∧l=[]∧e=0:=by
 intro E hE hb
 obtain ⟨rfl,h1,h2,h3⟩:=h E hE hb
 rw [List.take_length] at h1
 rw [List.drop_length] at h3
 exact ⟨h1.symm,h3,h2⟩
theorem oneE_none {E:List Ent} {s:List UInt8} (f:Ent→Ent) (h:∀d∈E,d.name≠s):oneE E s f=E:=by
 unfold oneE chE
 refine (List.map_congr_left fun d hd=>?_).trans (List.map_id _)
 rw [if_neg (by simpa using h d hd)]
 rfl
theorem oneE_ins {e:Ent} {f:Ent→Ent} (hf:∀x,(f x).name=x.name):∀{E:List Ent},(∀d∈E,d.name≠e.name)→oneE (insE e E) e.name f=insE (f e) E
 | [],_=>by simp [insE,oneE,chE]
 | d :: l,h=>by
   have h1:=h d List.mem_cons_self
   have h2:=oneE_none f h
   have h3:=oneE_ins hf fun y hy=>h y (List.mem_cons_of_mem _ hy)
   simp only [insE,hf]
   unfold oneE chE at h2 h3 ⊢
   split
   ·rw [List.map_cons,h2,if_pos (by simp)]
   ·rw [List.map_cons,h3,if_neg (by simpa using h1)]
structure StD' (w0 w:World) (db mb rb vb:Nat) (L:List Cel):Prop where
 dir:DirW w db mb L
 new:∀k∈homes db mb L,w0.heap.size≤k∧k≠rb∧k≠vb
 fr:Fr [] w0 w
section
variable {w0 w w':World} {db mb rb vb:Nat} {L L':List Cel}
theorem StD'.keep (h:StD' w0 w db mb rb vb L) (hf:Fr [] w w'):StD' w0 w' db mb rb vb L:=⟨h.dir.fr0 hf,h.new,h.fr.trans0 hf⟩
theorem StD'.read (h:StD' w0 w db mb rb vb L) (hrb:w0.heap.size≤rb) (hf:Fr [rb] w w'):StD' w0 w' db mb rb vb L :=
 ⟨h.dir.fr hf fun k hk hx=>(h.new k hk).2.1 (List.mem_singleton.1 hx),h.new,h.fr.trans hf fun x hx hl=>by have:=List.mem_singleton.1 hx;omega⟩
theorem StD'.change (h:StD' w0 w db mb rb vb L) (hrb:rb<w.heap.size) (hvb:vb<w.heap.size) (hD:DirW w' db mb L') (hf:Fr (mb :: feet L) w w') (hk:∀k∈feet L',k∈feet L∨w.heap.size≤k):StD' w0 w' db mb rb vb L':=by
 have hs:=h.fr.size
 refine ⟨hD,fun k hk'=>?_,h.fr.trans hf fun x hx hl=>?_⟩
 ·simp only [homes,List.mem_cons] at hk'
  rcases hk' with rfl | rfl | hk'
  ·exact h.new _ (by simp [homes])
  ·exact h.new _ (by simp [homes])
  ·rcases hk k hk' with h2 | h2
   ·exact h.new _ (by simp [homes,h2])
   ·omega
 ·have:=h.new x (by rcases List.mem_cons.1 hx with rfl | hx <;> simp_all [homes])
  omega
theorem StD'.apart (h:StD' w0 w db mb rb vb L):rb ∉ mb :: feet L∧vb ∉ mb :: feet L:=by
 constructor
 ·intro hx
  exact (h.new rb (by rcases List.mem_cons.1 hx with hx | hx <;> simp [homes,hx])).2.1 rfl
 ·intro hx
  exact (h.new vb (by rcases List.mem_cons.1 hx with hx | hx <;> simp [homes,hx])).2.2 rfl
end
end Go.Proofs.YtffnihooekbcnaaGreat
namespace Go.Proofs.YtffnihooekbcnaaGreat
open Go.RowKit Go.Maps
attribute [local go_sem] mapAt_alloc mapAt_setCell mapAt_drew mapAt_drewN cells_str store_str
theorem feet_oneC (L:List Cel) (s:List UInt8) (f:Ent→Ent):feet (oneC L s f)=feet L:=feet_chC L _ f
theorem feet_insC {L:List Cel} {c:Cel} {k:Nat} (h:k∈feet (insC c L)):k∈c.feet∨k∈feet L:=by
 obtain ⟨d,hd,hk⟩:=mem_feet.1 h
 rcases mem_insC.1 hd with rfl | hd
 ·exact .inl hk
 ·exact .inr (mem_feet.2 ⟨d,hd,hk⟩)
end Go.Proofs.YtffnihooekbcnaaGreat
