/-
  Package sim: pushBegin with a bitmap.
-/
import Derived.Test.YtffnihooekbcnaaGreatG33
import Derived.Test.YtffnihooekbcnaaGreatG34
import Derived.Test.YtffnihooekbcnaaGreatG36
import Derived.Test.YtffnihooekbcnaaGreatG35
set_option linter.unusedVariables false
set_option maxRecDepth 100000
set_option maxHeartbeats 6400000
namespace Go.Proofs.YtffnihooekbcnaaGreat
open Go.RowKit Go.Maps
attribute [local go_sem] mapAt_alloc mapAt_setCell mapAt_drew mapAt_drewN cells_str store_str eql_str neq_str guard_str len_str
section
variable {w w':World} {S:SimS} {p:List By}
def ppS (S:SimS) (c:Cel) (nm ot:By) (jb lm gm tb bb:Nat):SimS:={ S with j:=.push jb lm gm (fun _=>False) (dirS (fun i=>isB (2*S.n) c.x.g c.x.l (i:Int)) S.n (2*S.n)) (fun _=>none) false,nm:=nm,pa:=lastN S.ys,zb:=1,zn:=S.n,pv:=(none,0,0),bm:=ot,sc:=some (tb,bb,List.replicate (gran (2*S.n) 1) false) }
def ppPost (w:World) (S:SimS) (c:Cel) (nm ot:By) (e:Ending) (w':World):Prop:=e=.returned (.int .i64 0)∧∃jb lm gm tb bb,SimW w' (ppS S c nm ot jb lm gm tb bb)∧StepO w (allF (simF S)) w' (allF (simF (ppS S c nm ot jb lm gm tb bb)))
theorem sPush_part (h:SimW w S) (hO:OkW S p) (hj:S.j=.none) (kd a:Int) (va:Option Addr) (vn vc:Nat) (nm ot:By) (ka:Option Addr) (kn kc:Nat) (hnm:okName nm=true) (hnew:nm ∉ S.ys.map fun y=>y.1.nm) (hys:S.ys.length≤1000) (c:Cel) (hot:ot.length≤maxLen) (hc:findC S.E ot=some c) (hot0:ot≠[]) (huse:c.x.use=true) (hlast:lastN S.ys≠[]) (hcS:c.x.S=2*S.n) :
 Calls Tryz.prog 24 #[.pointer (some ⟨S.wb,0,none⟩),.agg (stepC kd a 9 (.slice va vn vc) nm ot (.slice ka kn kc)).toArray] w (ppPost w S c nm ot):=by
 obtain ⟨w1,hw1⟩:∃w1,Hid (w.alloc (.cells (stepC kd a 9 (.slice va vn vc) nm ot (.slice ka kn kc)).toArray 34)=w1):=⟨_,hidIt rfl⟩
 have hF1:Fr [] w w1:=by rw [←hw1.out];exact (Fr.refl [] w).alloc _
 have B1:Blk w1 w.heap.size (stepC kd a 9 (.slice va vn vc) nm ot (.slice ka kn kc)) 34:=by rw [←hw1.out];exact Blk.new w (stepC kd a 9 (.slice va vn vc) nm ot (.slice ka kn kc)) 34
 have h1:=h.fr0 hF1
 have c0:=h1.cell
 rw [←hw1.out] at c0
 unfold simC at c0
 simp only [hj,JobS.face] at c0
 have kR:=fun X=>nRight_calls nm X
 rw [hnm] at kR
 have kN:=fun X (hX:Fr [] w1 X)=>lsNames_calls (h1.fr0 hX).lst hys
 have kC:=fun v X hv=>ContainsT_calls v nm (S.ys.map fun y=>y.1.nm) X hv
 rw [decide_eq_false hnew] at kC
 have hSB:=fun X (hX:Fr [] w1 X)=>(h1.fr0 hX).cell
 unfold simC at hSB
 have hdr:=(Fr.refl [] w1).drew
 obtain ⟨cd,hcd,hcdm,hsl⟩:=hO.find
 have kD:=fun X (hX:Fr [] w1 X)=>sDirty_yes (h1.fr0 hX) c kd a 9 va vn vc nm ot ka kn kc hot hc hot0 huse hlast
 have kS:=fun X (hX:Fr [] w1 X)=>sSize_calls (h1.fr0 hX) hO
 unfold drtPost at kD
 have hnn:=hO.n
 have hok:okNew ((2*S.n:Nat):Int) 1=true:=by
  have:S.n=1∨S.n=2∨S.n=3∨S.n=4∨S.n=5∨S.n=6:=by omega
  rcases this with e | e | e | e | e | e <;> (rw [e];decide)
 go_enter Tryz.func24,Tryz.ntmps24
 go_wp2_with fail
 rw [hw1.out]
 clear hw1 c0
 refine wp_region_G (fun X=>Fr [] w1.drew X) [(true,0),(true,1),(false,2),(true,3),(true,4),(true,5),(true,6),(true,7),(true,8),(true,10),(true,11),(false,9),(false,12),(true,13),(true,14)] (by as_aux_lemma=>kernel_rfl) (by as_aux_lemma=>kernel_rfl) (Fr.refl _ _) ?_
 simp only [inOrder,jD,jE,jF,jG]
 iterate 1 (refine wpG_pure fun K hK=>?_;go_simp;refine hK _ ?_;clear hK K)
 refine wpG_val (strL nm) (by first | rfl | go_simp) (fun X hX=>by have cc:=(B1.fr0 (hdr.trans0 hX)).cell;go_simp) ?_
 simp only [Act.put,jA,jB,jC]
 refine wpG_one fun K hK=>?_
 go_simp
 refine (kR _).mono ?_
 rintro e w2 ⟨rfl,hf2⟩
 refine hK _ _ (hf2) ?_
 clear hK K
 iterate 5 (refine wpG_pure fun K hK=>?_;go_simp;refine hK _ ?_;clear hK K)
 refine wpG_val (.pointer (some ⟨S.lb,0,none⟩)) (by first | rfl | go_simp) (fun X hX=>by have cc:=hSB _ (hdr.trans0 hX);go_simp) ?_
 simp only [Act.put,jA,jB,jC]
 iterate 1 (refine wpG_pure fun K hK=>?_;go_simp;refine hK _ ?_;clear hK K)
 refine wpG_val (strL nm) (by first | rfl | go_simp) (fun X hX=>by have cc:=(B1.fr0 (hdr.trans0 hX)).cell;go_simp) ?_
 simp only [Act.put,jA,jB,jC]
 refine wpG_one fun K hK=>?_
 go_simp
 refine (kN _ (hdr.trans0 hf2)).mono ?_
 rintro e w3 ⟨u,rfl,hu,_,hf3⟩
 refine hK _ _ (hf2.trans0 hf3) ?_
 clear hK K
 refine wpG_one fun K hK=>?_
 go_simp
 refine (kC _ _ hu).mono ?_
 rintro e w4 ⟨rfl,hf4⟩
 refine hK _ _ ((hf2.trans0 hf3).trans0 hf4) ?_
 clear hK K
 iterate 2 (refine wpG_pure fun K hK=>?_;go_simp;refine hK _ ?_;clear hK K)
 refine wpG_end ?_
 have hF4:Fr [] w1 w4:=hdr.trans0 ((hf2.trans0 hf3).trans0 hf4)
 clear kR kN kC hu hf2 hf3 hf4
 have b4:=(B1.fr0 hF4).cell
 go_wp2_with fail
 refine (kD _ hF4).mono ?_
 rintro e w5 ⟨t0,b0,rfl,ht0,hb0,hB5,hf5⟩
 rw [hcS] at hB5
 have hF5:=hF4.trans0 hf5
 clear kD b4 hf5
 go_wp2_with fail
 have hdr5:=hF5.drew
 have kP:=phBegin_calls (.pointer (some ⟨t0,0,none⟩)) (fun i=>isB (2*S.n) c.x.g c.x.l (i:Int)) cd (h1.ch.fr0 hdr5) hO.ims hcd (by unfold maxLen;omega) (by omega) (.inr ⟨t0,b0,c.x.g,c.x.l,rfl,hB5.fr0 (Fr.refl [] w5).drew,fun _=>rfl⟩)
 unfold phBegPost at kP
 refine wp_region_G (fun X=>Fr [] w1 X) [(true,0),(true,1),(true,2),(true,3),(true,4),(true,5),(true,6),(true,7),(true,8),(true,9),(true,10),(false,11),(true,12),(true,13),(true,14),(true,15),(true,16)] (by as_aux_lemma=>kernel_rfl) (by as_aux_lemma=>kernel_rfl) (hdr5) ?_
 simp only [inOrder,jD,jE,jF,jG]
 iterate 3 (refine wpG_pure fun K hK=>?_;go_simp;refine hK _ ?_;clear hK K)
 refine wpG_val (.pointer (some ⟨S.cb,0,none⟩)) (by first | rfl | go_simp) (fun X hX=>by have cc:=hSB _ hX;go_simp) ?_
 simp only [Act.put,jA,jB,jC]
 iterate 3 (refine wpG_pure fun K hK=>?_;go_simp;refine hK _ ?_;clear hK K)
 refine wpG_val (strL S.s) (by first | rfl | go_simp) (fun X hX=>by have cc:=hSB _ hX;go_simp) ?_
 simp only [Act.put,jA,jB,jC]
 iterate 2 (refine wpG_pure fun K hK=>?_;go_simp;refine hK _ ?_;clear hK K)
 refine wpG_val (.int .i64 9) (by first | rfl | go_simp) (fun X hX=>by have cc:=(B1.fr0 hX).cell;go_simp) ?_
 simp only [Act.put,jA,jB,jC]
 refine wpG_one fun K hK=>?_
 go_simp
 refine (kP).mono ?_
 rintro e w6 ⟨jb,lm,gm,rfl,hJ,hz1,hz2,hz3,hf6⟩
 have hf56:=hf6
 refine hK _ _ (hdr5.trans0 hf6) ?_
 clear hK K
 iterate 5 (refine wpG_pure fun K hK=>?_;go_simp;refine hK _ ?_;clear hK K)
 refine wpG_end ?_
 have hF6:=hdr5.trans0 hf6
 clear kP hf6
 go_wp2_with fail
 have hdr6:=hF6.drew
 obtain ⟨N,hN⟩:∃N,Hid (strL nm=Value.string N):=⟨_,hidIt rfl⟩
 obtain ⟨Z,hZ⟩:∃Z,Hid (strL ot=Value.string Z):=⟨_,hidIt rfl⟩
 refine wp_region_Z 15 (Fr [] w1) [(true,0),(true,1),(true,2),(true,3),(true,4),(true,5),(true,6),(true,7),(true,10),(true,11),(false,8),(true,9),(true,12),(false,13),(true,14)] (by as_aux_lemma=>kernel_rfl) (by as_aux_lemma=>kernel_rfl) (hdr6) ?_
 simp only [inOrder,jD,jE,jF,jG]
 iterate 2 (refine wpG_pure fun K hK=>?_;go_simp;refine hK _ ?_;clear hK K)
 refine wpG_val (.string N) (by first | rfl | go_simp) (fun X hX=>by have cc:=(B1.fr0 hX).cell;simp only [stepC,hN.out] at cc;go_simp) ?_
 simp only [Act.put,jA,jB,jC]
 iterate 3 (refine wpG_pure fun K hK=>?_;go_simp;refine hK _ ?_;clear hK K)
 refine wpG_val (.int .i64 1) (by first | rfl | go_simp) (fun X hX=>by have cc:=hSB _ hX;go_simp) ?_
 simp only [Act.put,jA,jB,jC]
 iterate 2 (refine wpG_pure fun K hK=>?_;go_simp;refine hK _ ?_;clear hK K)
 refine wpG_val (.string Z) (by first | rfl | go_simp) (fun X hX=>by have cc:=(B1.fr0 hX).cell;simp only [stepC,hZ.out] at cc;go_simp) ?_
 simp only [Act.put,jA,jB,jC]
 refine wpG_one fun K hK=>?_
 go_simp
 refine (kS _ hdr6).mono ?_
 rintro e w7 ⟨rfl,hf7⟩
 refine hK _ _ (hdr6.trans0 hf7) ?_
 clear hK K
 iterate 2 (refine wpG_pure fun K hK=>?_;go_simp;refine hK _ ?_;clear hK K)
 refine wpG_one fun K hK=>?_
 go_simp
 refine hK _ _ (hdr6.trans0 hf7) ?_
 clear hK K
 iterate 1 (refine wpG_pure fun K hK=>?_;go_simp;refine hK _ ?_;clear hK K)
 have hF7:=hdr6.trans0 hf7
 have h7:=h1.fr0 hF7
 have d7:=h7.blk.cell
 have df:=h7.blk.frozen
 have dl:=h7.blk.lt
 unfold simC at d7
 refine wpG_last fun K hK=>?_
 go_simp
 refine hK _ _ ?_
 clear hK K
 obtain ⟨W8,hW8⟩:∃W8,Hid ((((((((w7.setCell ⟨S.wb,10,none⟩ (.string N)).setCell ⟨S.wb,11,none⟩ (.string ⟨#[]⟩)).setCell ⟨S.wb,12,none⟩ (.int .i64 1)).setCell ⟨S.wb,13,none⟩ (.int .i64 (S.n:Int))).setCell ⟨S.wb,14,none⟩ (.slice none 0 0)).setCell ⟨S.wb,15,none⟩ (.string Z)).setCell ⟨S.wb,16,none⟩ (.pointer none))=W8):=⟨_,hidIt rfl⟩
 have hB8:=((((((h7.blk.setCell 10 (.string N)).setCell 11 (.string ⟨#[]⟩)).setCell 12 (.int .i64 1)).setCell 13 (.int .i64 (S.n:Int))).setCell 14 (.slice none 0 0)).setCell 15 (.string Z)).setCell 16 (.pointer none)
 have hf8:Fr [S.wb] w7 W8:=by
  rw [←hW8.out]
  exact (((((((Fr.refl [S.wb] w7).setCell (p:=⟨S.wb,10,none⟩) (.inl (by simp)) _).setCell (p:=⟨S.wb,11,none⟩) (.inl (by simp)) _).setCell (p:=⟨S.wb,12,none⟩) (.inl (by simp)) _).setCell (p:=⟨S.wb,13,none⟩) (.inl (by simp)) _).setCell (p:=⟨S.wb,14,none⟩) (.inl (by simp)) _).setCell (p:=⟨S.wb,15,none⟩) (.inl (by simp)) _).setCell (p:=⟨S.wb,16,none⟩) (.inl (by simp)) _
 rw [hW8.out] at hB8 ⊢
 clear hW8 d7 df dl
 have d8:=hB8.cell
 have e8:=hB8.frozen
 have l8:=hB8.lt
 unfold simC at d8
 have hz4:=hF4.size
 have hz6:=hdr5.size
 have hdz:=hF1.size
 have hz7:=hF7.size
 have hwl:=h.blk.lt
 have hdr67:=hdr6.trans0 hf7
 have hB7:BitW w7 t0 b0 (2*S.n) c.x.g c.x.l:=hB5.fr0 (((Fr.refl [] w5).drew.trans0 hf56).trans0 ((Fr.refl [] w6).drew.trans0 hf7))
 have hJ7:=hJ.fr0 (((Fr.refl [] w6).drew).trans0 hf7)
 have hjl:jb<w7.heap.size∧lm<w7.heap.size∧gm<w7.heap.size:=⟨hJ7.lt (.inl rfl),hJ7.lt (.inr (.inl rfl)),hJ7.lt (.inr (.inr (.inl rfl)))⟩
 have hB8':=hB7.fr hf8 (by simp;omega) (by simp;omega)
 have hL8:=h7.lst.fr hf8 (fun k hk h9=>h7.sep.off 0 4 k (by decide) (List.mem_singleton.1 hk) h9)
 obtain ⟨Q,hQ⟩:∃Q,Hid (strL (lastN S.ys)=Value.string Q):=⟨_,hidIt rfl⟩
 have kL:=lsLast_calls hL8
 rw [hQ.out] at kL
 clear kS hSB h1 hO hL8
 go_wp2_with fail
 refine kL.mono ?_
 rintro e w8 ⟨rfl,hf9⟩
 have hB9:=hB8.fr0 hf9
 have d9:=hB9.cell
 have e9:=hB9.frozen
 have l9:=hB9.lt
 unfold simC at d9
 clear kL d8 e8 l8
 go_wp2_with fail
 obtain ⟨W9,hW9⟩:∃W9,Hid (w8.setCell ⟨S.wb,11,none⟩ (.string Q)=W9):=⟨_,hidIt rfl⟩
 have hs9:Fr [S.wb] w8 W9:=by rw [←hW9.out];exact (Fr.refl [S.wb] w8).setCell (p:=⟨S.wb,11,none⟩) (.inl (by simp)) _
 have hB10:=hB9.setCell 11 (.string Q)
 rw [hW9.out] at hB10 ⊢
 have hz9:=hf9.size
 have hz8:=hf8.size
 have hz10:=hs9.size
 have hBt:=(hB8'.fr0 hf9).fr hs9 (by simp;omega) (by simp;omega)
 clear hW9 d9 e9 l9
 refine (Sectors_calls t0 b0 (2*S.n) c.x.g c.x.l _ hBt).mono ?_
 rintro e w10 ⟨rfl,hw10⟩
 rw [←hw10]
 clear hw10 hBt w10
 go_wp2_with fail
 refine (bNew_yes ((2*S.n:Nat):Int) 1 _ hok).mono ?_
 rintro e w11 ⟨tb,bb,rfl,hz11,hz12,hBn,hf11⟩
 rw [show ((2*S.n:Nat):Int).toNat=2*S.n by omega,show (1:Int).toNat=1 from rfl] at hBn
 have hB11:=hB10.fr0 hf11
 have d11:=hB11.cell
 have e11:=hB11.frozen
 have l11:=hB11.lt
 unfold simC at d11
 go_wp2_with fail
 have hs12:Fr [S.wb] w11 ((w11.setCell ⟨S.wb,16,none⟩ (.pointer (some ⟨tb,0,none⟩))).setCell ⟨S.wb,9,none⟩ (.pointer (some ⟨jb,0,none⟩))):=((Fr.refl [S.wb] w11).setCell (p:=⟨S.wb,16,none⟩) (.inl (by simp)) _).setCell (p:=⟨S.wb,9,none⟩) (.inl (by simp)) _
 have kX:=sBegin_calls (w:=(w11.setCell ⟨S.wb,16,none⟩ (.pointer (some ⟨tb,0,none⟩))).setCell ⟨S.wb,9,none⟩ (.pointer (some ⟨jb,0,none⟩))) S.wb (.push jb lm gm (fun _=>False) (dirS (fun i=>isB (2*S.n) c.x.g c.x.l (i:Int)) S.n (2*S.n)) (fun _=>none) false) _ rfl ((hB11.setCell 16 (.pointer (some ⟨tb,0,none⟩))).setCell 9 (.pointer (some ⟨jb,0,none⟩)))
 simp only [JobS.kind,JobS.face] at kX
 clear d11 e11 l11
 refine kX.mono ?_
 rintro e w12 ⟨rfl,hB12,hf12⟩
 have hf1112:=hs12.trans' hf12
 have hF12:Fr [S.wb] w7 w12:=(((hf8.trans0 hf9).trans' hs9).trans0 hf11).trans' hf1112
 have hz13:=hf11.size
 have hz14:=hf1112.size
 have hBn12:=hBn.fr hf1112 (by simp;omega) (by simp;omega)
 have hfin:=hidIt (h7.pushes (S':=ppS S c nm ot jb lm gm tb bb) (X:=w) hF12 (by
  have e:simC (ppS S c nm ot jb lm gm tb bb)=[.int .i64 1,strL S.s,.pointer (some ⟨S.cb,0,none⟩),.pointer (some ⟨S.db,0,none⟩),.pointer (some ⟨S.fb,0,none⟩),.pointer (some ⟨S.lb,0,none⟩),.int .i64 3,.iface 57 (.pointer (some ⟨jb,0,none⟩)),S.j.mp,.pointer (some ⟨jb,0,none⟩),.string N,.string Q,.int .i64 1,.int .i64 (S.n:Int),.slice none 0 0,.string Z,.pointer (some ⟨tb,0,none⟩)]:=by
   rw [←hN.out,←hZ.out,←hQ.out,hj]
   rfl
  rw [e]
  exact hB12) (PshW.fr hJ7 hF12 (fun k hk=>by
   rw [List.mem_singleton.1 hk]
   rintro (h9 | h9 | h9 | h9)
   ·omega
   ·omega
   ·omega
   ·exact h9)) (fun x hx=>by cases hx;exact hBn12) (fun i h5 h6=>by
  match i,h5,h6 with
  | 0,_,_=>rfl
  | 1,_,_=>rfl
  | 2,_,_=>rfl
  | 3,_,_=>rfl
  | 4,_,_=>rfl
  | 5,h5,_=>exact absurd rfl h5
  | 6,_,h6=>exact absurd rfl h6
  | _+7,_,_=>rfl) (fun K=>⟨K.ch (by decide),K.dir (by decide),K.fil (by decide),K.lst (by decide)⟩) (fun k hk=>by
    rcases hk with rfl | rfl | rfl | hk
    ·omega
    ·omega
    ·omega
    ·exact hk.elim) (fun k hk=>by
    have hk:k=tb∨k=bb:=hk
    omega) (fun k hk h9=>by
    have h9:k=tb∨k=bb:=h9
    rcases hk with rfl | rfl | rfl | hk
    ·omega
    ·omega
    ·omega
    ·exact hk.elim) (hF1.trans0 hF7) (fun i k hk=>h.sep.low i k hk))
 clear kX hB12 hf12 h7 hJ hJ7 h hj hBn hBn12 hB11 hB10 hB9 hB8 hB7 hB8' hB5
 go_wp2
 go_ret
 exact ⟨rfl,jb,lm,gm,tb,bb,hfin.out⟩
end
end Go.Proofs.YtffnihooekbcnaaGreat
namespace Go.Proofs.YtffnihooekbcnaaGreat
open Go.RowKit
def upF (f:Nat→By) (p:Nat × By):Nat→By:=fun k=>if k=p.1 then p.2 else f k
theorem pieceAt_none {ps:List (Nat × By)} {k:Nat} (h:∀p∈ps,p.1≠k):pieceAt ps k=none:=by
 unfold pieceAt
 rw [List.find?_eq_none.2 (fun p hp=>by simpa using h p hp)]
 rfl
theorem fold_piece:∀(ps:List (Nat × By)) (f:Nat→By) (k:Nat),ps.Pairwise (fun p q=>p.1<q.1)→ps.foldl upF f k=(pieceAt ps k).getD (f k)
 | [],_,_,_=>rfl
 | p :: r,f,k,h=>by
   rw [List.pairwise_cons] at h
   rw [List.foldl_cons,fold_piece r _ k h.2]
   by_cases e:p.1=k
   ·rw [pieceAt_none (fun q hq=>by have:=h.1 q hq;omega)]
    unfold pieceAt upF
    simp [e]
   ·have:pieceAt (p :: r) k=pieceAt r k:=by
     unfold pieceAt
     rw [List.find?_cons_of_neg (by simpa using e)]
    rw [this]
    unfold upF
    rw [if_neg (fun h=>e h.symm)]
def baseF (r:List Bk) (b:Bk):Nat→By:=fun k=>if b.pa=[] then zBy 32 else cont r b.pa k
theorem cont_new {r:List Bk} {b:Bk} (h:b.ps.Pairwise fun p q=>p.1<q.1):cont (b :: r) b.nm=b.ps.foldl upF (baseF r b):=by
 funext k
 rw [fold_piece _ _ _ h]
 unfold cont baseF
 rw [if_pos rfl]
 cases pieceAt b.ps k <;> rfl
theorem spl_cat {n c:Nat} {f:Nat→By} {x:By} (hf:∀k,k<n→(f k).length=32) (hx:x.length=32) (hc:c<n):spl (catN n f) (c*32) x=catN n (upF f (c,x)):=by
 induction n with
 | zero=>omega
 | succ n ih =>
   have hl:=catN_len (n:=n) (f:=f) fun k hk=>hf k (by omega)
   rw [catN_succ,catN_succ]
   by_cases e:c=n
   ·subst e
    have h1:catN c (upF f (c,x))=catN c f:=catN_congr fun k hk=>by unfold upF;rw [if_neg (by simp;omega)]
    have h2:upF f (c,x) c=x:=by unfold upF;rw [if_pos rfl]
    rw [h1,h2]
    unfold spl
    rw [List.take_append_of_le_length (by omega),List.take_of_length_le (by omega),List.drop_eq_nil_of_le (by rw [List.length_append,hl,hf c (by omega),hx];omega),List.append_nil]
   ·have h2:upF f (c,x) n=f n:=by unfold upF;rw [if_neg (by simp;omega)]
    rw [h2,←ih (fun k hk=>hf k (by omega)) (by omega)]
    unfold spl
    rw [List.take_append_of_le_length (by omega),List.drop_append_of_le_length (by omega),List.append_assoc,List.append_assoc,List.append_assoc]
theorem catN_zero (n:Nat):catN n (fun _=>zBy 32)=zBy (n*32):=by
 induction n with
 | zero=>rfl
 | succ n ih =>
   rw [catN_succ,ih]
   unfold zBy
   rw [List.replicate_append_replicate]
   congr 1
   omega
theorem upF_len {n:Nat} {f:Nat→By} {p:Nat × By} (hf:∀k,k<n→(f k).length=32) (hp:p.2.length=32):∀k,k<n→(upF f p k).length=32:=fun k hk=>by
 unfold upF
 split
 ·exact hp
 ·exact hf k hk
theorem fold_len {n:Nat}:∀(ps:List (Nat × By)) (f:Nat→By),(∀k,k<n→(f k).length=32)→(∀p∈ps,p.2.length=32)→∀k,k<n→(ps.foldl upF f k).length=32
 | [],_,hf,_=>hf
 | p :: r,f,hf,hp=>fold_len r _ (upF_len hf (hp p List.mem_cons_self)) fun q hq=>hp q (List.mem_cons_of_mem _ hq)
theorem cont_pre {bs:List Bk} {s:By} {i j:Nat} (hji:j<i) (hi:i≤bs.length) (h:∀q,j<q→q<i→∀b,bs[q]? = some b→b.nm≠s) (k:Nat):cont (bs.take i).reverse s k=cont (bs.take (j+1)).reverse s k:=by
 have e:bs.take i=bs.take (j+1)++(bs.take i).drop (j+1):=by
  have:=List.take_append_drop (j+1) (bs.take i)
  rw [List.take_take,Nat.min_eq_left (by omega)] at this
  exact this.symm
 rw [e,List.reverse_append]
 refine cont_skip fun b hb=>?_
 rw [List.mem_reverse] at hb
 obtain ⟨q,hq,rfl⟩:=List.getElem_of_mem hb
 have hq2:q<i - (j+1):=by rw [List.length_drop,List.length_take] at hq;omega
 refine h (j+1+q) (by omega) (by omega) _ ?_
 rw [List.getElem_drop,List.getElem_take]
 exact List.getElem?_eq_getElem (by omega)
abbrev dkS (S:SimS):List Dk:=S.L.map (·.x)
def vw (S:SimS) (p:List By) (k:Nat):By:=seenC (dkS S) 32 (S.s :: p) k
theorem vw_view {S:SimS} {p:List By} {k:Nat} (hk:k<S.n):viewK S.L S.n S.s p k=vw S p k:=by
 unfold viewK
 rw [if_pos hk]
 rfl
theorem vw_top {S:SimS} {p:List By} {c:Cd} (hc:fK S.L S.s=some c) (k:Nat):vw S p k=visC c.x.M k (seenC (dkS S) 32 p k):=seenC_some (by rw [fK_D,hc];rfl)
theorem vw_len {S:SimS} {p:List By} (h:OkW S p) (k:Nat):(vw S p k).length=32:=seenC_len h.ok.z _ _
section
variable {M:Img} {bel:List By}
theorem write_out {a:Int} {b:By} (h:OkI M) (hB:M.B=1) (hu:∀c,c<M.t.length→(bel.getD c []).length=M.z) {k:Nat} (ht:(writeE M a b bel).1≠0∨touch a (b.length / 16) k=false) :
 (writeE M a b bel).2.t.getD k zS=M.t.getD k zS∧∀u,visC (writeE M a b bel).2 k u=visC M k u:=by
 by_cases h0:(writeE M a b bel).1=0
 case neg=>rw [writeE_no h0];exact ⟨rfl,fun _=>rfl⟩
 have ht:touch a (b.length / 16) k=false:=ht.resolve_left fun hn=>hn h0
 obtain ⟨a',n',rfl,h16,_,hw⟩:=write_vis (R:=(writeE M a b bel).2) h hu (by rw [←h0])
 refine hw.out k ?_
 rw [hB]
 unfold touch at ht
 rw [Bool.and_eq_false_iff,decide_eq_false_iff_not,decide_eq_false_iff_not] at ht
 omega
theorem vis_whole {R:Img} {k:Nat} {v:By} (hok:OkI R) (hB:R.B=1) (hu:(bel.getD k []).length=32) (hv:v.length=32)
 (hx:∀y,32*k≤y→y<32*k+32→visX R (fun c=>bel.getD c []) y=v.getD (y - 32*k) 0):visC R k (bel.getD k [])=v:=by
 have hz:R.z=32:=by unfold Img.z;rw [hB]
 have hl:(visC R k (bel.getD k [])).length=32:=by rw [visC_len hok.toOkJ (by rw [hz];exact hu),hz]
 refine List.ext_getElem (by rw [hl,hv]) fun i h1 h2=>?_
 have h3:=hx (k*R.z+i) (by rw [hz];omega) (by rw [hz];omega)
 rw [visX_at (by rw [hz];omega)] at h3
 rw [List.getD_eq_getElem?_getD,List.getElem?_eq_getElem h1] at h3
 simp only [Option.getD_some] at h3
 rw [h3,show k*R.z+i - 32*k=i by rw [hz];omega,List.getD_eq_getElem?_getD,List.getElem?_eq_getElem h2]
 rfl
theorem write_at {k:Nat} {v:By} (h:OkI M) (hB:M.B=1) (hu:∀c,c<M.t.length→(bel.getD c []).length=M.z) (hk:k<M.t.length) (hv:v.length=32) (h0:(writeE M ((k*2:Nat):Int) v bel).1=0) :
 visC (writeE M ((k*2:Nat):Int) v bel).2 k (bel.getD k [])=v:=by
 obtain ⟨a',n',ha,h16,_,hw⟩:=write_vis (R:=(writeE M ((k*2:Nat):Int) v bel).2) h hu (by rw [←h0])
 have hz:M.z=32:=by unfold Img.z;rw [hB]
 refine vis_whole hw.ok (hw.B.trans hB) (by rw [←hz];exact hu k hk) hv fun y h1 h2=>?_
 have ha':a'=k*2:=by omega
 subst ha'
 rw [hw.vis,if_pos (by omega)]
 congr 1
 omega
theorem zero_at {k:Nat} (h:OkI M) (hB:M.B=1) (hu:∀c,c<M.t.length→(bel.getD c []).length=M.z) (hk:k<M.t.length) (h0:(zeroE M ((k*2:Nat):Int) 2 bel).1=0) :
 visC (zeroE M ((k*2:Nat):Int) 2 bel).2 k (bel.getD k [])=zBy 32:=by
 obtain ⟨a',n',ha,hn,_,hw⟩:=zero_vis (R:=(zeroE M ((k*2:Nat):Int) 2 bel).2) h hu (by rw [←h0])
 have hz:M.z=32:=by unfold Img.z;rw [hB]
 refine vis_whole hw.ok (hw.B.trans hB) (by rw [←hz];exact hu k hk) (by simp [zBy]) fun y h1 h2=>?_
 have ha':a'=k*2:=by omega
 subst ha'
 have hn':n'=2:=by omega
 subst hn'
 rw [hw.vis,if_pos (by omega)]
 have:y - 16*(k*2)=y - 32*k:=by omega
 rw [this]
theorem zero_out {a l:Int} (h:OkI M) (hB:M.B=1) (hu:∀c,c<M.t.length→(bel.getD c []).length=M.z) {k:Nat} (ht:(zeroE M a l bel).1≠0∨touch a l.toNat k=false) :
 (zeroE M a l bel).2.t.getD k zS=M.t.getD k zS∧∀u,visC (zeroE M a l bel).2 k u=visC M k u:=by
 by_cases h0:(zeroE M a l bel).1=0
 case neg=>rw [zeroE_no h0];exact ⟨rfl,fun _=>rfl⟩
 have ht:touch a l.toNat k=false:=ht.resolve_left fun hn=>hn h0
 obtain ⟨a',n',rfl,rfl,_,hw⟩:=zero_vis (R:=(zeroE M a l bel).2) h hu (by rw [←h0])
 refine hw.out k ?_
 rw [hB]
 unfold touch at ht
 rw [Bool.and_eq_false_iff,decide_eq_false_iff_not,decide_eq_false_iff_not] at ht
 omega
theorem disc_hole (h:OkI M) (hB:M.B=1) (k:Nat):((discardE M 0 ((M.t.length:Int)*2)).2.t.getD k zS).1=0∧Like M (discardE M 0 ((M.t.length:Int)*2)).2:=by
 have hi:insideI M ((0:Nat):Int) (M.t.length*2 ^ M.B:Nat)=0:=inside_nat (by omega)
 have hK:=dis_inv h (a:=0) (l:=M.t.length*2 ^ M.B) (by omega) _ (Nat.le_refl _)
 have he:((M.t.length:Int)*2)=((M.t.length*2 ^ M.B:Nat):Int):=by rw [hB];omega
 unfold discardE
 rw [he,if_neg (fun hn=>hn hi)]
 refine ⟨?_,hK.ok,hK.B,hK.t,hK.n,hK.s⟩
 have hd:=dis_all h _ (Nat.le_refl _)
 by_cases hk:k<pcN M.z 0 (M.t.length*2 ^ M.B)
 ·have:=hd k hk
  show ((disN M 0 (M.t.length*2 ^ M.B) (pcN M.z 0 (M.t.length*2 ^ M.B))).t.getD k zS).1=0
  rw [this]
  rfl
 ·have hkl:(discardI M 0 (M.t.length*2 ^ M.B)).t.length≤k:=by
   rw [show (discardI M 0 (M.t.length*2 ^ M.B)).t.length=M.t.length from hK.t]
   refine Nat.le_of_not_lt fun hlt=>hk ?_
   rw [pc_lt (z_pos M)]
   have hC:pcC M.z 0 k=k:=by simp [pcC,pcF]
   rw [hC]
   have hz:16*(0+M.t.length*2 ^ M.B)=M.t.length*M.z:=by unfold Img.z;rw [Nat.zero_add,Nat.mul_left_comm]
   rw [hz]
   exact ⟨Nat.mul_pos (by omega) (Nat.two_pow_pos _),Nat.mul_lt_mul_of_pos_right hlt (z_pos M)⟩
  show ((discardI M 0 (M.t.length*2 ^ M.B)).t.getD k zS).1=0
  rw [List.getD_eq_getElem?_getD,List.getElem?_eq_none hkl]
  rfl
end
def nM:By:=[109]
def dirtyB (n g:Nat) (l:List Bool) (k:Nat):Bool:=isB (2*n) g l ((2*k:Nat):Int) || isB (2*n) g l ((2*k+1:Nat):Int)
def dirtyE (E:List Cel) (n k:Nat):Bool:=match E with
 | [c]=>dirtyB n c.x.g c.x.l k
 | _=>true
def sinD (S:SimS) (k:Nat):Bool:=match S.sc with
 | none=>dirtyE S.E S.n k
 | some x=>dirtyB S.n 1 x.2.2 k
def OkE1 (c:Cel) (n:Nat):Prop:=c.x.name=nM∧c.x.on=true∧c.x.use=true∧c.x.S=2*n∧c.x.g=2∧c.x.l.length=gran (2*n) 2
def baseC (S:SimS) (k:Nat):By:=baseF (S.ys.map (·.1)).reverse (finB S []) k
def lastC (S:SimS) (k:Nat):By:=cont (S.ys.map (·.1)).reverse (lastN S.ys) k
structure PushK (S:SimS) (p:List By) (W:Nat→By) (l:List Bool) (G:Nat→Option By) (k:Nat):Prop where
 left:l.getD k false=true→vw S p k=W k
 got:∀x,G k=some x→x=W k
 none:l.getD k false=false→G k=none→S.pa≠[]∧baseC S k=W k
 since:sinD S k=false→vw S p k=W k
structure PushOk (S:SimS) (p:List By) (W:Nat→By) (l:List Bool) (G:Nat→Option By):Prop where
 len:l.length=S.n
 zb:S.zb=1
 zn:S.zn=(S.n:Int)
 nm:okName S.nm=true
 new:∀y∈S.ys,y.1.nm≠S.nm
 pa:(S.pa=[]∧S.sc=none)∨(S.pa≠[]∧S.pa=lastN S.ys∧S.ys≠[]∧S.bm=nM∧∃x,S.sc=some x∧x.2.2.length=gran (2*S.n) 1)
 one:∀k,k<S.n→PushK S p W l G k
def JobOk (S:SimS) (p:List By) (W:Nat→By):Prop:=match S.j with
 | .none=>True
 | .merge _ _ b l ov=>ov=false∧l.length=S.n∧∃r,p=b :: r∧∀k,k<S.n→l.getD k false=false→kindD (dkS S) S.s k≠0→seenC (dkS S) 32 (b :: r) k=vw S p k
 | .pull _ ov=>ov=false
 | .push _ _ _ _ l G ov=>ov=false∧PushOk S p W l (unG G)
structure Inv (S:SimS) (p:List By) (Ws:List (Nat→By)) (W:Nat→By):Prop where
 ok:OkW S p
 good:GoodL (S.ys.map (·.1))
 ns:∀y∈S.ys,y.1.n=S.n
 len:Ws.length=S.ys.length
 cont:∀i,i<S.ys.length→∀k,k<S.n→cont ((S.ys.map (·.1)).take (i+1)).reverse (S.ys.getD i zBv).1.nm k=Ws.getD i (fun _=>[]) k
 Wl:∀k,k<S.n→(W k).length=32
 E:∃c,S.E=[c]∧OkE1 c S.n
 job:JobOk S p W
 clean:S.j.kind≠3→S.ys≠[]→∀k,k<S.n→dirtyE S.E S.n k=false→vw S p k=lastC S k
structure SameS (S S':SimS):Prop where
 wb:S'.wb=S.wb
 n:S'.n=S.n
 ys:S'.ys=S.ys
 nm:S'.nm=S.nm
section
variable {S S':SimS} {p p':List By} {Ws:List (Nat→By)} {W W':Nat→By}
theorem Inv.re (h:Inv S p Ws W) (hs:SameS S S') (hO:OkW S' p') (hW:∀k,k<S.n→(W' k).length=32) (hE:∃c,S'.E=[c]∧OkE1 c S'.n) (hJ:JobOk S' p' W') (hc:S'.j.kind≠3→S'.ys≠[]→∀k,k<S'.n→dirtyE S'.E S'.n k=false→vw S' p' k=lastC S' k):Inv S' p' Ws W' :=
 ⟨hO,by rw [hs.ys];exact h.good,by rw [hs.ys,hs.n];exact h.ns,by rw [hs.ys];exact h.len,by rw [hs.ys,hs.n];exact h.cont,by rw [hs.n];exact hW,hE,hJ,hc⟩
theorem kept_bit {N g:Nat} {l:List Bool} {f n s:Nat} (hg:0<g) (hl:l.length=gran N g) (hin:f+n≤N) (h1:f≤s) (h2:s<f+n):isB N g (bSet N g l f n) s=true:=by
 have hs:s<N:=by omega
 have hk:s / g<l.length:=by rw [hl];unfold gran;rw [ceil_lt hg];exact Nat.lt_of_le_of_lt (Nat.div_mul_le_self s g) hs
 have hd:=Nat.div_mul_le_self s g
 have hd2:s<s / g*g+g:=by have:=(div_le (X:=s) (g:=g) (k:=s / g) hg).1 (Nat.le_refl _);exact this
 have:oneB N g f n (s / g)=true:=by
  simp only [oneB,decide_eq_true_eq]
  omega
 unfold isB
 rw [Int.toNat_natCast,bSet_getD hk,this]
 simp
 omega
theorem isB_set {N g:Nat} {l:List Bool} {f q s:Nat} (hg:0<g) (hl:l.length=gran N g) (hin:f+q≤N) (hs:s<N) (h:isB N g (bSet N g l f q) (s:Int)=false):isB N g l (s:Int)=false∧¬(f≤s∧s<f+q):=by
 refine ⟨?_,fun hh=>by rw [kept_bit hg hl hin hh.1 hh.2] at h;cases h⟩
 unfold isB at h ⊢
 have hk:s / g<l.length:=by rw [hl];unfold gran;rw [ceil_lt hg];exact Nat.lt_of_le_of_lt (Nat.div_mul_le_self s g) hs
 rw [Int.toNat_natCast] at h ⊢
 rw [bSet_getD hk] at h
 rw [decide_eq_true (show (0:Int)≤(s:Int) by omega),decide_eq_true (show (s:Int)<(N:Int) by omega)] at h ⊢
 simp only [Bool.true_and,Bool.or_eq_false_iff] at h ⊢
 exact h.2
theorem dirtyB_set {n g:Nat} {l:List Bool} {a q:Nat} (hg:0<g) (hl:l.length=gran (2*n) g) (hin:a+q≤2*n) (hq:0<q) {k:Nat} (hk:k<n) (h:dirtyB n g (bSet (2*n) g l a q) k=false):dirtyB n g l k=false∧touch (a:Int) q k=false:=by
 unfold dirtyB at h ⊢
 rw [Bool.or_eq_false_iff] at h ⊢
 have h1:=isB_set hg hl hin (by omega) h.1
 have h2:=isB_set hg hl hin (by omega) h.2
 refine ⟨⟨h1.1,h2.1⟩,?_⟩
 unfold touch
 rw [Bool.and_eq_false_iff,decide_eq_false_iff_not,decide_eq_false_iff_not]
 omega
theorem doS_yes {g N:Nat} {l:List Bool} {a q:Nat} (hin:a+q≤N):(doS g (N,l) (0,(a:Int),(q:Int))).1.2=bSet N g l a q:=by
 unfold doS
 rw [if_pos rfl,if_pos (show insideB N (a:Int) (q:Int) from by unfold insideB;omega)]
 rfl
theorem put_dk (S:SimS) (p':Pl) (r:Int × Img) (a g:Int):dkS (aftW S p' r a g)=setM (dkS S) S.s r.2:=setK_x _ _ _ _
theorem wr_vw {c:Cd} (hO:OkW S p) (hc:fK S.L S.s=some c) {a:Int} {b:By} (hd:dkS S'=setM (dkS S) S.s (wrRes S p c a b).2) (hs:S'.s=S.s) {k:Nat} (ht:(wrRes S p c a b).1≠0∨touch a (b.length / 16) k=false):vw S' p k=vw S p k:=by
 have hcm:=(nlFind_mem hc).1
 have hI:=hO.ims c hcm
 have h1:=(write_out hI.1 hI.2.1 (bel:=belL (dkS S) S.n p) (a:=a) (b:=b) (hO.ok.bel (List.mem_map.2 ⟨c,hcm,rfl⟩) p) ht).2
 rw [vw_top hc,←h1]
 unfold vw
 rw [hd,hs]
 exact seen_setM_top hO.path
theorem wr_kind {c:Cd} (hO:OkW S p) (hc:fK S.L S.s=some c) {a:Int} {b:By} (hd:dkS S'=setM (dkS S) S.s (wrRes S p c a b).2) {k:Nat} (ht:(wrRes S p c a b).1≠0∨touch a (b.length / 16) k=false):kindD (dkS S') S.s k=kindD (dkS S) S.s k:=by
 have hcm:=(nlFind_mem hc).1
 have hI:=hO.ims c hcm
 have h1:=(write_out hI.1 hI.2.1 (bel:=belL (dkS S) S.n p) (a:=a) (b:=b) (hO.ok.bel (List.mem_map.2 ⟨c,hcm,rfl⟩) p) ht).1
 rw [kindD_of hc,←h1,hd]
 unfold kindD
 rw [fD_setM,fK_D,hc]
 simp
 rfl
theorem wr_in {c:Cd} (hO:OkW S p) (hc:fK S.L S.s=some c) {a:Int} {b:By} (hb:0<b.length) (h0:(wrRes S p c a b).1=0):∃a':Nat,a=a'∧a'+b.length / 16≤2*S.n∧0<b.length / 16:=by
 have hcm:=(nlFind_mem hc).1
 have hI:=hO.ims c hcm
 obtain ⟨a',n',rfl,h16,hin,_⟩:=write_vis (R:=(wrRes S p c a b).2) hI.1 (bel:=belL (dkS S) S.n p) (hO.ok.bel (List.mem_map.2 ⟨c,hcm,rfl⟩) p) (x:=a) (b:=b) (show wrRes S p c a b=_ by rw [←h0])
 rw [hI.2.1,hI.2.2] at hin
 exact ⟨a',rfl,by omega,by omega⟩
theorem wr_E {c:Cel} {n:Nat} (hE:OkE1 c n) {a q:Nat} (hin:a+q≤2*n) (hq:0<q):∃c',allC [c] (wrE (a:Int) (q:Int))=[c']∧OkE1 c' n∧∀k,k<n→dirtyE [c'] n k=false→dirtyE [c] n k=false∧touch (a:Int) q k=false:=by
 obtain ⟨h1,h2,h3,h4,h5,h6⟩:=hE
 refine ⟨c.on (wrE a q),by simp [allC,chC],?_,fun k hk h=>?_⟩
 ·have hx:(c.on (wrE a q)).x={ c.x with S:=(doS c.x.g (c.x.S,c.x.l) (0,(a:Int),(q:Int))).1.1,l:=(doS c.x.g (c.x.S,c.x.l) (0,(a:Int),(q:Int))).1.2 }:=by
   show wrE a q c.x=_
   unfold wrE
   rw [if_pos h2]
  unfold OkE1
  rw [hx]
  refine ⟨h1,h2,h3,?_,h5,?_⟩
  ·show (doS c.x.g (c.x.S,c.x.l) (0,(a:Int),(q:Int))).1.1=_
   rw [doS_set];exact h4
  ·show (doS c.x.g (c.x.S,c.x.l) (0,(a:Int),(q:Int))).1.2.length=_
   rw [doS_yes (by omega)]
   unfold bSet
   rw [List.length_map,List.length_range]
   exact h6
 ·have hx:(c.on (wrE a q)).x.l=bSet (2*n) 2 c.x.l a q∧(c.on (wrE a q)).x.g=2:=by
   have:(c.on (wrE a q)).x={ c.x with S:=(doS c.x.g (c.x.S,c.x.l) (0,(a:Int),(q:Int))).1.1,l:=(doS c.x.g (c.x.S,c.x.l) (0,(a:Int),(q:Int))).1.2 }:=by
    show wrE a q c.x=_
    unfold wrE
    rw [if_pos h2]
   rw [this]
   refine ⟨?_,h5⟩
   show (doS c.x.g (c.x.S,c.x.l) (0,(a:Int),(q:Int))).1.2=_
   rw [doS_yes (by omega),h4,h5]
  unfold dirtyE at h ⊢
  simp only [hx.1,hx.2] at h
  simp only [h5]
  exact dirtyB_set (by decide) h6 hin hq hk h
end
section
variable {S S':SimS} {p p':List By} {Ws:List (Nat→By)} {W W':Nat→By}
structure WrC (S A:SimS) (p:List By) (r:Int) (a:Int) (g:Nat):Prop where
 ok:OkW A p
 E:∃c',A.E=[c']∧OkE1 c' S.n
 dirty:∀k,k<S.n→dirtyE A.E S.n k=false→dirtyE S.E S.n k=false∧(r≠0∨touch a g k=false)
 vw:∀k,(r≠0∨touch a g k=false)→vw A p k=vw S p k
 kind:∀k,(r≠0∨touch a g k=false)→kindD (dkS A) S.s k=kindD (dkS S) S.s k
 seen:∀q k,S.s ∉ q→seenC (dkS A) 32 q k=seenC (dkS S) 32 q k
theorem wr_common (h:Inv S p Ws W) {c:Cd} (hc:fK S.L S.s=some c) {a:Int} {b:By} (hb:0<b.length) (p':Pl):WrC S (aftW S p' (wrRes S p c a b) a ((b.length / 16:Nat):Int)) p (wrRes S p c a b).1 a (b.length / 16):=by
 have hput:=h.ok.put hc (p':=p') (h.ok.wr hc a b)
 have hdk:dkS (aftW S p' (wrRes S p c a b) a ((b.length / 16:Nat):Int))=setM (dkS S) S.s (wrRes S p c a b).2:=put_dk _ _ _ _ _
 obtain ⟨c0,hE0,hE1⟩:=h.E
 have hEE:(aftW S p' (wrRes S p c a b) a ((b.length / 16:Nat):Int)).E=if (wrRes S p c a b).1=0 then allC S.E (wrE a ((b.length / 16:Nat):Int)) else S.E:=rfl
 refine ⟨⟨hput.ok,hput.path,hput.n,hput.deep⟩,?_,?_,fun k hk=>wr_vw h.ok hc hdk rfl hk,fun k hk=>wr_kind h.ok hc hdk hk,fun q k hq=>by rw [hdk];exact seen_setM hq⟩
 ·rw [hEE,hE0]
  by_cases h0:(wrRes S p c a b).1=0
  ·obtain ⟨a',rfl,hin,hq⟩:=wr_in h.ok hc hb h0
   obtain ⟨c',h1,h2,_⟩:=wr_E hE1 hin hq
   rw [if_pos h0]
   exact ⟨c',h1,h2⟩
  ·rw [if_neg h0]
   exact ⟨c0,rfl,hE1⟩
 ·intro k hk
  rw [hEE,hE0]
  by_cases h0:(wrRes S p c a b).1=0
  ·obtain ⟨a',rfl,hin,hq⟩:=wr_in h.ok hc hb h0
   obtain ⟨c',h1,_,h3⟩:=wr_E hE1 hin hq
   rw [if_pos h0,h1]
   intro hd
   exact ⟨(h3 k hk hd).1,.inr (h3 k hk hd).2⟩
  ·rw [if_neg h0]
   exact fun hd=>⟨hd,.inl h0⟩
theorem inv_write (h:Inv S p Ws W) {c:Cd} (hc:fK S.L S.s=some c) {a:Int} {b:By} (hb:0<b.length) {p':Pl} (hJ:WrJ S p (wrRes S p c a b).1 a (b.length / 16) (aftW S p' (wrRes S p c a b) a ((b.length / 16:Nat):Int)) S') :
 Inv S' p Ws W∧SameS S S'∧S'.j.kind=S.j.kind:=by
 have hC:=wr_common h hc (a:=a) hb p'
 have hin:=fun h0=>wr_in h.ok hc hb (a:=a) h0
 generalize hr:wrRes S p c a b=r at *
 have hsame:SameS S (aftW S p' r a ((b.length / 16:Nat):Int)):=⟨rfl,rfl,rfl,rfl⟩
 have hA1:(aftW S p' r a ((b.length / 16:Nat):Int)).s=S.s:=rfl
 have hA2:(aftW S p' r a ((b.length / 16:Nat):Int)).sc=S.sc:=rfl
 have hA3:(aftW S p' r a ((b.length / 16:Nat):Int)).j=S.j:=rfl
 have hA4:(aftW S p' r a ((b.length / 16:Nat):Int)).zb=S.zb∧(aftW S p' r a ((b.length / 16:Nat):Int)).zn=S.zn∧(aftW S p' r a ((b.length / 16:Nat):Int)).pa=S.pa∧(aftW S p' r a ((b.length / 16:Nat):Int)).bm=S.bm:=⟨rfl,rfl,rfl,rfl⟩
 generalize aftW S p' r a ((b.length / 16:Nat):Int)=A at *
 generalize b.length / 16=g at *
 have hJ0:=h.job
 unfold WrJ at hJ
 unfold JobOk at hJ0
 have hcl:S.j.kind≠3→S.ys≠[]→∀k,k<S.n→dirtyE A.E S.n k=false→vw A p k=lastC S k:=fun h1 h2 k hk hd=>by
  obtain ⟨h3,h4⟩:=hC.dirty k hk hd
  rw [hC.vw k h4]
  exact h.clean h1 h2 k hk h3
 cases hj:S.j with
 | none =>
   simp only [hj] at hJ
   subst hJ
   refine ⟨h.re hsame hC.ok h.Wl (by rw [hsame.n];exact hC.E) (by unfold JobOk;rw [hA3,hj];trivial) (fun h1 h2=>?_),hsame,by rw [hA3,hj]⟩
   rw [hsame.n]
   intro k hk hd
   have:=hcl (by rw [←hA3];exact h1) (by rw [←hsame.ys];exact h2) k hk hd
   rw [this]
   unfold lastC
   rw [hsame.ys]
 | merge jb mp bs l ov =>
   simp only [hj] at hJ hJ0
   obtain ⟨rfl,hl,r0,rfl,hm⟩:=hJ0
   subst hJ
   refine ⟨h.re ⟨hsame.wb,hsame.n,hsame.ys,hsame.nm⟩ ⟨hC.ok.ok,hC.ok.path,hC.ok.n,hC.ok.deep⟩ h.Wl (by show ∃c,A.E=[c]∧OkE1 c A.n;rw [hsame.n];exact hC.E) ?_ (fun _ h2=>?_),⟨hsame.wb,hsame.n,hsame.ys,hsame.nm⟩,by rfl⟩
   ·unfold JobOk
    refine ⟨rfl,?_,r0,rfl,?_⟩
    ·show (mgL l r.1 a g S.n).length=A.n
     rw [hsame.n,←hl]
     unfold mgL
     split
     ·split
      ·rfl
      ·rw [markL_len]
     ·rfl
    ·show ∀k,k<A.n→(mgL l r.1 a g S.n).getD k false=false→kindD (dkS A) A.s k≠0→seenC (dkS A) 32 (bs :: r0) k=vw A (bs :: r0) k
     rw [hsame.n,hA1]
     intro k hk hlk hkd
     have hcase:l.getD k false=false∧(r.1≠0∨touch a g k=false):=by
      unfold mgL at hlk
      by_cases h0:r.1=0
      ·rw [if_pos h0] at hlk
       obtain ⟨a',rfl,_,hq⟩:=hin h0
       rw [if_neg (by omega),markL_at (by omega),Bool.or_eq_false_iff,decide_eq_true (show k<S.n from hk),Bool.true_and] at hlk
       exact ⟨hlk.1,.inr hlk.2⟩
      ·rw [if_neg h0] at hlk
       exact ⟨hlk,.inl h0⟩
     rw [hC.kind k hcase.2] at hkd
     rw [hC.vw k hcase.2,hC.seen _ _ h.ok.path.self]
     exact hm k hk hcase.1 hkd
   ·show ∀k,k<A.n→dirtyE A.E A.n k=false→vw A (bs :: r0) k=_
    rw [hsame.n]
    intro k hk hd
    have:=hcl (by rw [hj];simp [JobS.kind]) (by rw [←hsame.ys];exact h2) k hk hd
    rw [this]
    unfold lastC
    show _=cont (A.ys.map (·.1)).reverse (lastN A.ys) k
    rw [hsame.ys]
 | pull jb ov =>
   simp only [hj] at hJ hJ0
   subst hJ
   refine ⟨h.re hsame hC.ok h.Wl (by rw [hsame.n];exact hC.E) (by unfold JobOk;rw [hA3,hj];exact hJ0) (fun h1 h2=>?_),hsame,by rw [hA3,hj]⟩
   rw [hsame.n]
   intro k hk hd
   have:=hcl (by rw [←hA3];exact h1) (by rw [←hsame.ys];exact h2) k hk hd
   rw [this]
   unfold lastC
   rw [hsame.ys]
 | push jb lm gm o l G ov =>
   simp only [hj] at hJ hJ0
   obtain ⟨rfl,hp⟩:=hJ0
   obtain ⟨o',G',hG,rfl⟩:=hJ
   refine ⟨h.re ⟨hsame.wb,hsame.n,hsame.ys,hsame.nm⟩ ⟨hC.ok.ok,hC.ok.path,hC.ok.n,hC.ok.deep⟩ h.Wl (by show ∃c,A.E=[c]∧OkE1 c A.n;rw [hsame.n];exact hC.E) ?_ (fun h1=>absurd rfl h1),⟨hsame.wb,hsame.n,hsame.ys,hsame.nm⟩,by rfl⟩
   unfold JobOk
   refine ⟨rfl,?_⟩
   rw [hG]
   have hlen:(befS S p a g l (unG G)).1.length=S.n:=by
    unfold befS
    split
    ·exact hp.len
    ·rw [befP_len];exact hp.len
   have hbef:∀k,k<S.n→((befS S p a g l (unG G)).1.getD k false=true→l.getD k false=true∧(r.1≠0∨touch a g k=false))∧((befS S p a g l (unG G)).2 k=if (l.getD k false && !(befS S p a g l (unG G)).1.getD k false)=true then some (vw S p k) else unG G k)∧((befS S p a g l (unG G)).1.getD k false=false→l.getD k false=false∨(befS S p a g l (unG G)).2 k=some (vw S p k)):=by
    intro k hk
    unfold befS
    by_cases hg0:g=0
    ·rw [if_pos hg0]
     refine ⟨fun h9=>⟨h9,?_⟩,?_,fun h9=>.inl h9⟩
     ·by_cases h0:r.1=0
      ·obtain ⟨_,_,_,hq⟩:=hin h0
       omega
      ·exact .inl h0
     ·cases l.getD k false <;> rfl
    ·rw [if_neg hg0]
     obtain ⟨b1,b2⟩:=befP_at (viewK S.L S.n S.s p) (touch a g) l (unG G) k
     rw [b1,b2,vw_view hk]
     cases l.getD k false <;> cases touch a g k <;> simp
   generalize befS S p a g l (unG G)=B at *
   refine ⟨by show B.1.length=A.n;rw [hsame.n];exact hlen,hA4.1.trans hp.zb,?_,?_,?_,?_,?_⟩
   ·show A.zn=(A.n:Int)
    rw [hA4.2.1,hsame.n];exact hp.zn
   ·show okName A.nm=true
    rw [hsame.nm];exact hp.nm
   ·show ∀y∈A.ys,y.1.nm≠A.nm
    rw [hsame.ys,hsame.nm];exact hp.new
   ·show (A.pa=[]∧sinS S.sc r.1 a g S.n=none)∨(A.pa≠[]∧A.pa=lastN A.ys∧A.ys≠[]∧A.bm=nM∧∃x,sinS S.sc r.1 a g S.n=some x∧x.2.2.length=gran (2*A.n) 1)
    rw [hA4.2.2.1,hA4.2.2.2,hsame.ys,hsame.n]
    rcases hp.pa with ⟨q1,q2⟩ | ⟨q1,q2,q3,q4,x,q5,q6⟩
    ·refine .inl ⟨q1,?_⟩
     unfold sinS
     rw [q2]
     split <;> rfl
    ·refine .inr ⟨q1,q2,q3,q4,?_⟩
     unfold sinS
     rw [q5]
     by_cases h0:r.1=0
     ·rw [if_pos h0]
      refine ⟨_,rfl,?_⟩
      obtain ⟨a',rfl,hin',_⟩:=hin h0
      show (doS 1 (2*S.n,x.2.2) (0,(a':Int),(g:Int))).1.2.length=_
      rw [doS_yes hin']
      unfold bSet
      rw [List.length_map,List.length_range]
      exact q6
     ·rw [if_neg h0]
      exact ⟨x,rfl,q6⟩
   ·show ∀k,k<A.n→_
    rw [hsame.n]
    intro k hk
    have hk1:=hp.one k hk
    obtain ⟨b1,b2,b3⟩:=hbef k hk
    refine ⟨fun h9=>?_,fun x hx=>?_,fun h8 h9=>?_,fun h9=>?_⟩
    ·obtain ⟨b4,b5⟩:=b1 h9
     show vw A p k=W k
     rw [hC.vw k b5]
     exact hk1.left b4
    ·rw [b2] at hx
     split at hx
     ·rename_i hb4
      simp only [Bool.and_eq_true] at hb4
      injection hx with hx
      rw [←hx]
      exact hk1.left hb4.1
     ·exact hk1.got x hx
    ·rcases b3 h8 with b4 | b4
     ·have b5:unG G k=none:=by rw [b2,b4] at h9;simpa using h9
      obtain ⟨b6,b7⟩:=hk1.none b4 b5
      refine ⟨by show A.pa≠[];rw [hA4.2.2.1];exact b6,?_⟩
      rw [←b7]
      unfold baseC finB baseF
      show (if A.pa=[] then _ else cont (A.ys.map (·.1)).reverse A.pa k)=_
      rw [hA4.2.2.1,hsame.ys]
     ·rw [b4] at h9;cases h9
    ·have b4:sinD S k=false∧(r.1≠0∨touch a g k=false):=by
      unfold sinD at h9 ⊢
      rcases hp.pa with ⟨q1,q2⟩ | ⟨q1,q2,q3,q4,x,q5,q6⟩
      ·rw [q2]
       have:sinS S.sc r.1 a g S.n=none:=by unfold sinS;rw [q2];split <;> rfl
       simp only [this] at h9
       exact hC.dirty k hk h9
      ·rw [q5]
       by_cases h0:r.1=0
       ·obtain ⟨a',rfl,hin',hq⟩:=hin h0
        have:sinS S.sc r.1 (a':Int) g S.n=some (x.1,x.2.1,bSet (2*S.n) 1 x.2.2 a' g):=by
         unfold sinS
         rw [if_pos h0,q5]
         show some (x.1,x.2.1,(doS 1 (2*S.n,x.2.2) (0,(a':Int),(g:Int))).1.2)=_
         rw [doS_yes hin']
        simp only [this] at h9
        have:=dirtyB_set (by decide) q6 hin' hq hk h9
        exact ⟨this.1,.inr this.2⟩
       ·have:sinS S.sc r.1 a g S.n=some x:=by unfold sinS;rw [if_neg h0,q5]
        simp only [this] at h9
        exact ⟨h9,.inl h0⟩
     show vw A p k=W k
     rw [hC.vw k b4.2]
     exact hk1.since b4.1
end
end Go.Proofs.YtffnihooekbcnaaGreat
