/-
  Package sim: Do.
-/
import Derived.Test.YtffnihooekbcnaaGreatG26
set_option maxRecDepth 100000
set_option maxHeartbeats 6400000
namespace Go.Proofs.YtffnihooekbcnaaGreat
open Go.RowKit Go.Maps
attribute [local go_sem] mapAt_alloc mapAt_setCell mapAt_drew mapAt_drewN cells_str store_str eql_str neq_str guard_str len_str
section
variable {w w':World}
theorem sDo_calls (F wb:Nat) {Q:Int→World→Prop} (k a g':Int) (va:Option Addr) (vn vc:Nat) (nm ot:By) (ka:Option Addr) (kn kc:Nat) (hk:0≤k∧k<1000000)
 (hm:(upd (upd (upd (upd (upd (upd (upd (upd (upd (upd (upd (upd (fun _=>none) (.int .i64 0) (some (.func (.func 17) #[.pointer (some ⟨wb,0,none⟩)] #[]))) (.int .i64 1) (some (.func (.func 18) #[.pointer (some ⟨wb,0,none⟩)] #[]))) (.int .i64 2) (some (.func (.func 19) #[.pointer (some ⟨wb,0,none⟩)] #[]))) (.int .i64 3) (some (.func (.func 20) #[.pointer (some ⟨wb,0,none⟩)] #[]))) (.int .i64 4) (some (.func (.func 21) #[.pointer (some ⟨wb,0,none⟩)] #[]))) (.int .i64 5) (some (.func (.func 22) #[.pointer (some ⟨wb,0,none⟩)] #[]))) (.int .i64 6) (some (.func (.func 23) #[.pointer (some ⟨wb,0,none⟩)] #[]))) (.int .i64 7) (some (.func (.func 24) #[.pointer (some ⟨wb,0,none⟩)] #[]))) (.int .i64 8) (some (.func (.func 25) #[.pointer (some ⟨wb,0,none⟩)] #[]))) (.int .i64 9) (some (.func (.func 26) #[.pointer (some ⟨wb,0,none⟩)] #[]))) (.int .i64 10) (some (.func (.func 27) #[.pointer (some ⟨wb,0,none⟩)] #[]))) (.int .i64 11) (some (.func (.func 28) #[.pointer (some ⟨wb,0,none⟩)] #[]))) (.int .i64 k)=some (.func (.func F) #[.pointer (some ⟨wb,0,none⟩)] #[])) (hE:∀a W,(callFunc F a).run Tryz.prog W=.ok (.enter F a) W)
 (kF:∀X,Fr [] w X→Calls Tryz.prog F #[.pointer (some ⟨wb,0,none⟩),.agg (stepC k a g' (.slice va vn vc) nm ot (.slice ka kn kc)).toArray] X fun e w'=>∃i,e=.returned (.int .i64 i)∧Q i w') :
 Calls Tryz.prog 8 #[.pointer (some ⟨wb,0,none⟩),.agg (stepC k a g' (.slice va vn vc) nm ot (.slice ka kn kc)).toArray] w fun e w'=>∃i,e=.returned (.int .i64 i)∧Q i w':=by
 obtain ⟨W1,hW1⟩:∃W1,Hid ((w.alloc (.cells (stepC k a g' (.slice va vn vc) nm ot (.slice ka kn kc)).toArray 34)).alloc (Obj.map #[] 0)=W1):=⟨_,hidIt rfl⟩
 obtain ⟨mb1,hm1⟩:∃x,Hid (w.heap.size+1=x):=⟨_,hidIt rfl⟩
 obtain ⟨sb,hsb⟩:∃x,Hid (w.heap.size=x):=⟨_,hidIt rfl⟩
 have hF1:Fr [] w W1:=by rw [←hW1.out];exact ((Fr.refl [] w).alloc _).alloc _
 have B1:Blk W1 sb (stepC k a g' (.slice va vn vc) nm ot (.slice ka kn kc)) 34:=by
  rw [←hW1.out]
  exact (Blk.new' hsb.out.symm (stepC k a g' (.slice va vn vc) nm ot (.slice ka kn kc)) _).alloc _
 have M1:IMap W1 mb1 (fun _=>none):=by
  rw [←hW1.out,←hm1.out]
  have:=IMap.new (w.alloc (.cells (stepC k a g' (.slice va vn vc) nm ot (.slice ka kn kc)).toArray 34))
  simp only [World.size_alloc] at this
  exact this
 have hne:w.heap.size≤mb1∧sb≠mb1:=by have:=hm1.out;have:=hsb.out;omega
 have hmm:=@run_makeMap Tryz.prog
 obtain ⟨W2,u1,M2,f1⟩:=M1.put (T:=48) Tryz.underlying48 0 (by decide) (.func (.func 17) #[.pointer (some ⟨wb,0,none⟩)] #[])
 obtain ⟨W3,u2,M3,f2⟩:=M2.put (T:=48) Tryz.underlying48 1 (by decide) (.func (.func 18) #[.pointer (some ⟨wb,0,none⟩)] #[])
 obtain ⟨W4,u3,M4,f3⟩:=M3.put (T:=48) Tryz.underlying48 2 (by decide) (.func (.func 19) #[.pointer (some ⟨wb,0,none⟩)] #[])
 obtain ⟨W5,u4,M5,f4⟩:=M4.put (T:=48) Tryz.underlying48 3 (by decide) (.func (.func 20) #[.pointer (some ⟨wb,0,none⟩)] #[])
 obtain ⟨W6,u5,M6,f5⟩:=M5.put (T:=48) Tryz.underlying48 4 (by decide) (.func (.func 21) #[.pointer (some ⟨wb,0,none⟩)] #[])
 obtain ⟨W7,u6,M7,f6⟩:=M6.put (T:=48) Tryz.underlying48 5 (by decide) (.func (.func 22) #[.pointer (some ⟨wb,0,none⟩)] #[])
 obtain ⟨W8,u7,M8,f7⟩:=M7.put (T:=48) Tryz.underlying48 6 (by decide) (.func (.func 23) #[.pointer (some ⟨wb,0,none⟩)] #[])
 obtain ⟨W9,u8,M9,f8⟩:=M8.put (T:=48) Tryz.underlying48 7 (by decide) (.func (.func 24) #[.pointer (some ⟨wb,0,none⟩)] #[])
 obtain ⟨W10,u9,M10,f9⟩:=M9.put (T:=48) Tryz.underlying48 8 (by decide) (.func (.func 25) #[.pointer (some ⟨wb,0,none⟩)] #[])
 obtain ⟨W11,u10,M11,f10⟩:=M10.put (T:=48) Tryz.underlying48 9 (by decide) (.func (.func 26) #[.pointer (some ⟨wb,0,none⟩)] #[])
 obtain ⟨W12,u11,M12,f11⟩:=M11.put (T:=48) Tryz.underlying48 10 (by decide) (.func (.func 27) #[.pointer (some ⟨wb,0,none⟩)] #[])
 obtain ⟨W13,u12,M13,f12⟩:=M12.put (T:=48) Tryz.underlying48 11 (by decide) (.func (.func 28) #[.pointer (some ⟨wb,0,none⟩)] #[])
 have hf:Fr [mb1] W1 W13:=(((((((((((f1.trans' f2).trans' f3).trans' f4).trans' f5).trans' f6).trans' f7).trans' f8).trans' f9).trans' f10).trans' f11).trans' f12)
 have hF13:Fr [] w W13:=hF1.trans1 hf hne.1
 have B13:=B1.fr hf (by simpa using hne.2)
 have c13:=B13.cell
 have hlk:=M13.look2 (T:=48) Tryz.underlying48 (z:=.nilFunc) (by kernel_rfl) k hk
 rw [hm] at hlk
 simp only [Option.getD_some,Option.isSome_some] at hlk
 have kX:=kF _ hF13
 clear kF M1 M2 M3 M4 M5 M6 M7 M8 M9 M10 M11 M12 M13 f1 f2 f3 f4 f5 f6 f7 f8 f9 f10 f11 f12 hf B1 B13 hm hF1 hF13
 go_enter Tryz.func8,Tryz.ntmps8
 go_wp2_with fail
 rw [hW1.out,hm1.out,hsb.out,u1]
 clear hW1 hm1 hsb u1
 go_wp2_with fail
 refine kX.mono ?_
 rintro e w' ⟨i,rfl,hq⟩
 replace hq:=hidIt hq
 clear kX
 go_wp2
 go_ret
 exact ⟨_,rfl,hq.out⟩
end
section
variable {w w':World} {S:SimS} {p:List By}
theorem sBusy_overlay (h:SimW w S) (hj:S.j≠.none) (kd a g':Int) (va:Option Addr) (vn vc:Nat) (nm ot:By) (ka:Option Addr) (kn kc:Nat) :
 Calls Tryz.prog 20 #[.pointer (some ⟨S.wb,0,none⟩),.agg (stepC kd a g' (.slice va vn vc) nm ot (.slice ka kn kc)).toArray] w fun e w'=>e=.returned (.int .i64 143)∧Fr [] w w':=by
 have c0:=(h.fr0 ((Fr.refl [] w).alloc (.cells (stepC kd a g' (.slice va vn vc) nm ot (.slice ka kn kc)).toArray 34))).cell
 unfold simC at c0
 cases hk:S.j with
 | none=>exact absurd hk hj
 | merge jb mp b l ov =>
   simp only [hk,JobS.face] at c0
   clear h hj hk
   go_enter Tryz.func20,Tryz.ntmps20
   go_wp2
   go_ret
   exact ⟨rfl,(Fr.refl [] w).alloc _⟩
 | pull jb ov =>
   simp only [hk,JobS.face] at c0
   clear h hj hk
   go_enter Tryz.func20,Tryz.ntmps20
   go_wp2
   go_ret
   exact ⟨rfl,(Fr.refl [] w).alloc _⟩
 | push jb lm gm o l G ov =>
   simp only [hk,JobS.face] at c0
   clear h hj hk
   go_enter Tryz.func20,Tryz.ntmps20
   go_wp2
   go_ret
   exact ⟨rfl,(Fr.refl [] w).alloc _⟩
theorem sBusy_mergeBegin (h:SimW w S) (hj:S.j≠.none) (kd a g':Int) (va:Option Addr) (vn vc:Nat) (nm ot:By) (ka:Option Addr) (kn kc:Nat) :
 Calls Tryz.prog 22 #[.pointer (some ⟨S.wb,0,none⟩),.agg (stepC kd a g' (.slice va vn vc) nm ot (.slice ka kn kc)).toArray] w fun e w'=>e=.returned (.int .i64 143)∧Fr [] w w':=by
 have c0:=(h.fr0 ((Fr.refl [] w).alloc (.cells (stepC kd a g' (.slice va vn vc) nm ot (.slice ka kn kc)).toArray 34))).cell
 unfold simC at c0
 cases hk:S.j with
 | none=>exact absurd hk hj
 | merge jb mp b l ov =>
   simp only [hk,JobS.face] at c0
   clear h hj hk
   go_enter Tryz.func22,Tryz.ntmps22
   go_wp2
   go_ret
   exact ⟨rfl,(Fr.refl [] w).alloc _⟩
 | pull jb ov =>
   simp only [hk,JobS.face] at c0
   clear h hj hk
   go_enter Tryz.func22,Tryz.ntmps22
   go_wp2
   go_ret
   exact ⟨rfl,(Fr.refl [] w).alloc _⟩
 | push jb lm gm o l G ov =>
   simp only [hk,JobS.face] at c0
   clear h hj hk
   go_enter Tryz.func22,Tryz.ntmps22
   go_wp2
   go_ret
   exact ⟨rfl,(Fr.refl [] w).alloc _⟩
theorem sBusy_pullBegin (h:SimW w S) (hj:S.j≠.none) (kd a g':Int) (va:Option Addr) (vn vc:Nat) (nm ot:By) (ka:Option Addr) (kn kc:Nat) :
 Calls Tryz.prog 23 #[.pointer (some ⟨S.wb,0,none⟩),.agg (stepC kd a g' (.slice va vn vc) nm ot (.slice ka kn kc)).toArray] w fun e w'=>e=.returned (.int .i64 143)∧Fr [] w w':=by
 have c0:=(h.fr0 ((Fr.refl [] w).alloc (.cells (stepC kd a g' (.slice va vn vc) nm ot (.slice ka kn kc)).toArray 34))).cell
 unfold simC at c0
 cases hk:S.j with
 | none=>exact absurd hk hj
 | merge jb mp b l ov =>
   simp only [hk,JobS.face] at c0
   clear h hj hk
   go_enter Tryz.func23,Tryz.ntmps23
   go_wp2
   go_ret
   exact ⟨rfl,(Fr.refl [] w).alloc _⟩
 | pull jb ov =>
   simp only [hk,JobS.face] at c0
   clear h hj hk
   go_enter Tryz.func23,Tryz.ntmps23
   go_wp2
   go_ret
   exact ⟨rfl,(Fr.refl [] w).alloc _⟩
 | push jb lm gm o l G ov =>
   simp only [hk,JobS.face] at c0
   clear h hj hk
   go_enter Tryz.func23,Tryz.ntmps23
   go_wp2
   go_ret
   exact ⟨rfl,(Fr.refl [] w).alloc _⟩
theorem sBusy_pushBegin (h:SimW w S) (hj:S.j≠.none) (kd a g':Int) (va:Option Addr) (vn vc:Nat) (nm ot:By) (ka:Option Addr) (kn kc:Nat) :
 Calls Tryz.prog 24 #[.pointer (some ⟨S.wb,0,none⟩),.agg (stepC kd a g' (.slice va vn vc) nm ot (.slice ka kn kc)).toArray] w fun e w'=>e=.returned (.int .i64 143)∧Fr [] w w':=by
 have c0:=(h.fr0 ((Fr.refl [] w).alloc (.cells (stepC kd a g' (.slice va vn vc) nm ot (.slice ka kn kc)).toArray 34))).cell
 unfold simC at c0
 cases hk:S.j with
 | none=>exact absurd hk hj
 | merge jb mp b l ov =>
   simp only [hk,JobS.face] at c0
   clear h hj hk
   go_enter Tryz.func24,Tryz.ntmps24
   go_wp2
   go_ret
   exact ⟨rfl,(Fr.refl [] w).alloc _⟩
 | pull jb ov =>
   simp only [hk,JobS.face] at c0
   clear h hj hk
   go_enter Tryz.func24,Tryz.ntmps24
   go_wp2
   go_ret
   exact ⟨rfl,(Fr.refl [] w).alloc _⟩
 | push jb lm gm o l G ov =>
   simp only [hk,JobS.face] at c0
   clear h hj hk
   go_enter Tryz.func24,Tryz.ntmps24
   go_wp2
   go_ret
   exact ⟨rfl,(Fr.refl [] w).alloc _⟩
end
section
variable {w w':World} {S:SimS} {p:List By}
theorem chIns_step {X X':World} {L:List Cd} {c:Cd} {cb mb:Nat} (hf:Fr [mb] X X') (h1:∀k,(c.p.r k).isSome=true→X.heap.size≤k) (h2:X.heap.size≤c.db):StepO X (chO cb mb L) X' (chO cb mb (nlIns Cd.nm c L)):=by
 refine ⟨⟨_,hf,fun k hk _=>.inr (.inl (List.mem_singleton.1 hk))⟩,fun k hk=>?_⟩
 rcases hk with rfl | rfl | ⟨d,hd,hk⟩
 ·exact .inl (.inl rfl)
 ·exact .inl (.inr (.inl rfl))
 ·rcases mem_nlIns.1 hd with rfl | hd
  ·rcases hk with rfl | hk
   ·exact .inr h2
   ·exact .inr (h1 k hk)
  ·exact .inl (.inr (.inr ⟨d,hd,hk⟩))
theorem SimW.cells {S':SimS} (h:SimW w S) (hf:Fr [S.wb] w w') (hB:Blk w' S'.wb (simC S') 65) (hwb:S'.wb=S.wb) (hg:∀i,i≠0→simF S' i=simF S i)
 (hw:SimK w' S (·=0)→ChG noEx w' S'.cb S'.mb 1 60 S'.L∧DirW w' S'.db S'.dm S'.E∧FilesW w' S'.fb S'.fm S'.F (S'.ys.map (·.1))∧LstW w' S'.lb S'.o S'.v S'.ys∧JobW w' S'.cb S'.n S'.s S'.j∧SinW w' S'.n S'.sc):SimW w' S'∧StepO w (allF (simF S)) w' (allF (simF S')) :=
 h.one 0 ⟨⟨_,hf,fun _ hk _=>List.mem_singleton.1 hk⟩,fun k hk=>.inl (by show k=S.wb;rw [←hwb];exact hk)⟩ hg (fun k hk=>by rw [show k=S'.wb from hk];exact hB.lt) fun K=>⟨hB,hw K⟩
def ovPost (w:World) (S:SimS) (p:List By) (nm:By) (e:Ending) (w':World):Prop :=
 e=.returned (.int .i64 (chAddE S.L nm S.s p))∧((chAddE S.L nm S.s p≠0∧Fr [] w w') ∨
  (chAddE S.L nm S.s p=0∧∃c:Cd,c.x=⟨nm,S.s,newI 1 S.n 60⟩∧SimW w' { S with L:=nlIns Cd.nm c S.L,s:=nm }∧StepO w (allF (simF S)) w' (allF (simF { S with L:=nlIns Cd.nm c S.L,s:=nm }))))
theorem sOverlay_calls (h:SimW w S) (hO:OkW S p) (hj:S.j=.none) (kd a g':Int) (va:Option Addr) (vn vc:Nat) (nm ot:By) (ka:Option Addr) (kn kc:Nat) (hnm:nm.length≤maxLen) :
 Calls Tryz.prog 20 #[.pointer (some ⟨S.wb,0,none⟩),.agg (stepC kd a g' (.slice va vn vc) nm ot (.slice ka kn kc)).toArray] w (ovPost w S p nm):=by
 obtain ⟨w1,hw1⟩:∃w1,Hid (w.alloc (.cells (stepC kd a g' (.slice va vn vc) nm ot (.slice ka kn kc)).toArray 34)=w1):=⟨_,hidIt rfl⟩
 have hF1:Fr [] w w1:=by rw [←hw1.out];exact (Fr.refl [] w).alloc _
 have B1:Blk w1 w.heap.size (stepC kd a g' (.slice va vn vc) nm ot (.slice ka kn kc)) 34:=by rw [←hw1.out];exact Blk.new w (stepC kd a g' (.slice va vn vc) nm ot (.slice ka kn kc)) 34
 have h1:=h.fr0 hF1
 have hz1:w.heap.size<w1.heap.size:=B1.lt
 obtain ⟨kb,hkb⟩:∃kb,w.heap.size=kb:=⟨_,rfl⟩
 have n1:¬allF (simF S) kb:=h.free (by omega)
 rw [hkb] at B1
 have c0:=h1.cell
 rw [←hw1.out] at c0
 unfold simC at c0
 simp only [hj,JobS.face] at c0
 have kS:=fun X (hX:Fr [] w1 X)=>sSize_calls (h1.fr0 hX) hO
 have kA:=fun X (hX:Fr [] w1 X)=>chAdd_calls nm S.s p S.n (h1.ch.fr0 hX) (fun _ _ h=>h) (by omega) (by omega) (by have:=hO.n;omega) (.inr hO.path) hnm hO.max hO.deep hO.nnl
 unfold chAddPost at kA
 have hSB:=fun X (hX:Blk X S.wb (simC S) 65)=>Blk.cell hX
 unfold simC at hSB
 obtain ⟨r,hr⟩:∃r,Hid (chAddE S.L nm S.s p=r):=⟨_,hidIt rfl⟩
 unfold ovPost
 simp only [hr.out] at kA ⊢
 have hdr:=(Fr.refl [] w1).drew
 have hS0:Blk w1.drew S.wb (simC S) 65∧Blk w1.drew kb (stepC kd a g' (.slice va vn vc) nm ot (.slice ka kn kc)) 34:=⟨h1.blk.drew,B1.drew⟩
 have hmb:S.mb≠S.wb:=fun e=>h.sep.off 0 1 S.wb (by decide) rfl (.inr (.inl e.symm))
 have hmk:S.mb≠kb:=fun e=>n1 ⟨1,.inr (.inl e.symm)⟩
 go_enter Tryz.func20,Tryz.ntmps20
 go_wp2_with fail
 rw [hw1.out]
 clear c0 hw1
 refine wp_region_G (fun X=>Blk X S.wb (simC S) 65∧Blk X kb (stepC kd a g' (.slice va vn vc) nm ot (.slice ka kn kc)) 34) [(true,0),(true,1),(true,2),(true,3),(true,4),(true,5),(true,6),(true,8),(true,9),(true,10),(true,11),(false,7),(false,12),(true,13)] (by as_aux_lemma=>kernel_rfl) (by as_aux_lemma=>kernel_rfl) (hS0) ?_
 simp only [inOrder,jD,jE,jF,jG]
 iterate 3 (refine wpG_pure fun K hK=>?_;go_simp;refine hK _ ?_;clear hK K)
 refine wpG_val (.pointer (some ⟨S.cb,0,none⟩)) (by first | rfl | go_simp) (fun X hX=>by have cc:=hSB _ hX.1;go_simp) ?_
 simp only [Act.put,jA,jB,jC]
 iterate 1 (refine wpG_pure fun K hK=>?_;go_simp;refine hK _ ?_;clear hK K)
 refine wpG_val (strL nm) (by first | rfl | go_simp) (fun X hX=>by have cc:=Blk.cell hX.2;go_simp) ?_
 simp only [Act.put,jA,jB,jC]
 iterate 4 (refine wpG_pure fun K hK=>?_;go_simp;refine hK _ ?_;clear hK K)
 refine wpG_val (strL S.s) (by first | rfl | go_simp) (fun X hX=>by have cc:=hSB _ hX.1;go_simp) ?_
 simp only [Act.put,jA,jB,jC]
 refine wpG_one fun K hK=>?_
 go_simp
 refine (kS _ hdr).mono ?_
 rintro e w2 ⟨rfl,hf2⟩
 refine hK _ _ (⟨hS0.1.fr0 hf2,hS0.2.fr0 hf2⟩) ?_
 clear hK K
 have hF2:Fr [] w1 w2:=hdr.trans0 hf2
 refine wpG_one fun K' hK'=>?_
 go_simp
 refine (kA _ hF2).mono ?_
 rintro e w3 ⟨rfl,hor⟩
 have hS3:Blk w3 S.wb (simC S) 65∧Blk w3 kb (stepC kd a g' (.slice va vn vc) nm ot (.slice ka kn kc)) 34:=by
  rcases hor with ⟨_,hf3⟩ | ⟨_,c,_,_,hf3,_,_⟩
  ·exact ⟨(hS0.1.fr0 hf2).fr0 hf3,(hS0.2.fr0 hf2).fr0 hf3⟩
  ·exact ⟨(hS0.1.fr0 hf2).fr hf3 (by simp;exact fun e=>hmb e.symm),(hS0.2.fr0 hf2).fr hf3 (by simp;exact fun e=>hmk e.symm)⟩
 refine hK' _ _ hS3 ?_
 clear hK' K'
 iterate 1 (refine wpG_pure fun K hK=>?_;go_simp;refine hK _ ?_;clear hK K)
 refine wpG_end ?_
 clear kS kA hS0 hf2
 rcases hor with ⟨hr0,hf3⟩ | ⟨rfl,c,hcx,hch,hf3,hp1,hp2⟩
 ·have hfin:=hidIt ((hF1.trans0 hF2).trans0 hf3)
  clear hS3 hSB h h1 hO
  go_wp2
  go_ret
  exact ⟨rfl,.inl ⟨hr0,hfin.out⟩⟩
 ·obtain ⟨hS4,hst4⟩:=(h1.fr0 hF2).chain hch (chIns_step hf3 hp1 hp2)
  have hset:Fr [S.wb] w3 (w3.setCell ⟨S.wb,1,none⟩ (strL nm)):=(Fr.refl [S.wb] w3).setCell (p:=⟨S.wb,1,none⟩) (.inl (by simp)) _
  have hS5:=hS4.cells (S':={ S with L:=nlIns Cd.nm c S.L,s:=nm }) hset (hS4.blk.setCell 1 (strL nm)) rfl (fun i hi=>by
   match i,hi with
   | 0,hi=>exact absurd rfl hi
   | 1,_=>rfl
   | 2,_=>rfl
   | 3,_=>rfl
   | 4,_=>rfl
   | 5,_=>rfl
   | 6,_=>rfl
   | _+7,_=>rfl) fun K=>⟨K.ch (by decide),K.dir (by decide),K.fil (by decide),K.lst (by decide),by show JobW _ _ _ _ S.j;rw [hj];trivial,K.sin (by decide)⟩
  have hfin:=hidIt (show ∃c:Cd,c.x=⟨nm,S.s,newI 1 S.n 60⟩∧SimW (w3.setCell ⟨S.wb,1,none⟩ (strL nm)) { S with L:=nlIns Cd.nm c S.L,s:=nm }∧StepO w (allF (simF S)) (w3.setCell ⟨S.wb,1,none⟩ (strL nm)) (allF (simF { S with L:=nlIns Cd.nm c S.L,s:=nm })) from
   ⟨c,hcx,hS5.1,((StepO.fr0 (hF1.trans0 hF2)).trans hst4).trans hS5.2⟩)
  have c4:=hS3.2.cell
  have d4:=hS4.blk.cell
  have df:=hS4.blk.frozen
  have dl:=hS4.blk.lt
  unfold simC at d4
  have hkw:kb≠S.wb:=fun e=>n1 ⟨0,e⟩
  clear hS5 hS4 hst4 h h1 hO hch hf3 hset hSB hp1 hp2 n1 hj
  go_wp2
  go_ret
  first | exact ⟨rfl,.inr ⟨rfl,hfin.out⟩⟩ | exact ⟨rfl,hfin.out⟩
end
section
variable {w w':World} {S:SimS} {p:List By}
theorem SimW.begins {j':JobS} {X:World} (h:SimW w S) (hf:Fr [S.wb] w w') (hB:Blk w' S.wb (simC { S with j:=j' }) 65) (hJ:JobW w' S.cb S.n S.s j') (hn:∀k,j'.o k→X.heap.size≤k) (hX:Fr [] X w) (h0:∀i k,simF S i k→k<X.heap.size) :
 SimW w' { S with j:=j' }∧StepO X (allF (simF S)) w' (allF (simF { S with j:=j' })):=by
 have hd:∀k,j'.o k→¬k=S.wb:=fun k hk e=>by have:=hn k hk;have:=h0 0 k e;omega
 refine ⟨?_,?_⟩
 ·have hsep:Sep w' (simF { S with j:=j' }):=by
   have hz:=hf.size
   refine ⟨fun i k hk=>?_,fun i j k hij hik hjk=>?_⟩
   ·match i,hk with
    | 0,hk=>exact Nat.lt_of_lt_of_le (h.sep.low 0 k hk) hz
    | 1,hk=>exact Nat.lt_of_lt_of_le (h.sep.low 1 k hk) hz
    | 2,hk=>exact Nat.lt_of_lt_of_le (h.sep.low 2 k hk) hz
    | 3,hk=>exact Nat.lt_of_lt_of_le (h.sep.low 3 k hk) hz
    | 4,hk=>exact Nat.lt_of_lt_of_le (h.sep.low 4 k hk) hz
    | 5,hk=>exact job_low hJ hk
    | 6,hk=>exact Nat.lt_of_lt_of_le (h.sep.low 6 k hk) hz
    | _+7,hk=>exact hk.elim
   ·by_cases hi:i=5
    ·subst hi
     have h5:X.heap.size≤k:=hn k hik
     have h6:simF S j k:=by
      match j,hij,hjk with
      | 0,_,hjk=>exact hjk
      | 1,_,hjk=>exact hjk
      | 2,_,hjk=>exact hjk
      | 3,_,hjk=>exact hjk
      | 4,_,hjk=>exact hjk
      | 5,hij,_=>exact absurd rfl hij
      | 6,_,hjk=>exact hjk
      | _+7,_,hjk=>exact hjk.elim
     have:=h0 j k h6;omega
    ·have h6:simF S i k:=by
      match i,hi,hik with
      | 0,_,hk=>exact hk
      | 1,_,hk=>exact hk
      | 2,_,hk=>exact hk
      | 3,_,hk=>exact hk
      | 4,_,hk=>exact hk
      | 5,hi,_=>exact absurd rfl hi
      | 6,_,hk=>exact hk
      | _+7,_,hk=>exact hk.elim
     by_cases hj5:j=5
     ·subst hj5
      have h5:X.heap.size≤k:=hn k hjk
      have:=h0 i k h6;omega
     ·have h7:simF S j k:=by
       match j,hj5,hjk with
       | 0,_,hk=>exact hk
       | 1,_,hk=>exact hk
       | 2,_,hk=>exact hk
       | 3,_,hk=>exact hk
       | 4,_,hk=>exact hk
       | 5,hi,_=>exact absurd rfl hi
       | 6,_,hk=>exact hk
       | _+7,_,hk=>exact hk.elim
      exact h.sep.off i j k hij h6 h7
  have K:=h.keep (C:=(·=0)) (g:=simF S) (ofC_one ⟨⟨_,hf,fun _ hk _=>List.mem_singleton.1 hk⟩,fun k hk=>.inl hk⟩:StepO w (ofC (·=0) (simF S)) w' (ofC (·=0) (simF S)))
  exact ⟨hB,K.ch (by decide),K.dir (by decide),K.fil (by decide),K.lst (by decide),hJ,K.sin (by decide),hsep⟩
 ·refine ⟨⟨[S.wb],hX.weak.trans' hf,fun k hk _=>⟨0,List.mem_singleton.1 hk⟩⟩,?_⟩
  rintro k ⟨i,hi⟩
  match i,hi with
  | 0,hk=>exact .inl ⟨0,hk⟩
  | 1,hk=>exact .inl ⟨1,hk⟩
  | 2,hk=>exact .inl ⟨2,hk⟩
  | 3,hk=>exact .inl ⟨3,hk⟩
  | 4,hk=>exact .inl ⟨4,hk⟩
  | 5,hk=>exact .inr (hn k hk)
  | 6,hk=>exact .inl ⟨6,hk⟩
  | _+7,hk=>exact hk.elim
def mbPost (w:World) (S:SimS) (p:List By) (e:Ending) (w':World):Prop :=
 (∃code:Int,code≠0∧e=.returned (.int .i64 code)∧Fr [] w w') ∨
 (∃b r jb mp,p=b :: r∧e=.returned (.int .i64 0)∧SimW w' { S with j:=.merge jb mp b (kindsL (S.L.map (·.x)) S.n S.s S.n) false }∧StepO w (allF (simF S)) w' (allF (simF { S with j:=.merge jb mp b (kindsL (S.L.map (·.x)) S.n S.s S.n) false })))
theorem sMerge_calls (h:SimW w S) (hO:OkW S p) (hj:S.j=.none) (kd a g':Int) (va:Option Addr) (vn vc:Nat) (nm ot:By) (ka:Option Addr) (kn kc:Nat) :
 Calls Tryz.prog 22 #[.pointer (some ⟨S.wb,0,none⟩),.agg (stepC kd a g' (.slice va vn vc) nm ot (.slice ka kn kc)).toArray] w (mbPost w S p):=by
 obtain ⟨w1,hw1⟩:∃w1,Hid (w.alloc (.cells (stepC kd a g' (.slice va vn vc) nm ot (.slice ka kn kc)).toArray 34)=w1):=⟨_,hidIt rfl⟩
 have hF1:Fr [] w w1:=by rw [←hw1.out];exact (Fr.refl [] w).alloc _
 have h1:=h.fr0 hF1
 have c0:=h1.cell
 rw [←hw1.out] at c0
 unfold simC at c0
 simp only [hj,JobS.face] at c0
 obtain ⟨c,hc,_,_⟩:=hO.find
 have kM:=fun X (hX:Fr [] w1 X)=>mBegin_calls S.s p S.n c (h1.ch.fr0 hX) hO.ims hO.path hc hO.max hO.few (by have:=hO.n;omega)
 unfold mBeginPost at kM
 have hdr:=(Fr.refl [] w1).drew
 have hSB:=fun X (hX:Fr [] w1 X)=>(h1.fr0 hX).cell
 unfold simC at hSB
 simp only [hj,JobS.face,JobS.mp,JobS.pp] at hSB
 generalize hkk:kindsL (S.L.map (·.x)) S.n S.s S.n=KK at kM
 unfold mbPost
 rw [hkk]
 have hkl:KK.length=S.n:=by rw [←hkk,kindsL_len]
 go_enter Tryz.func22,Tryz.ntmps22
 go_wp2_with fail
 rw [hw1.out]
 clear c0 hw1
 refine wp_region_G (fun X=>Fr [] w1.drew X) [(true,0),(true,1),(true,2),(true,3),(true,4),(true,5),(true,6),(true,7),(false,8),(true,9),(true,10),(true,11),(true,12),(true,13)] (by as_aux_lemma=>kernel_rfl) (by as_aux_lemma=>kernel_rfl) (Fr.refl _ _) ?_
 simp only [inOrder,jD,jE,jF,jG]
 iterate 3 (refine wpG_pure fun K hK=>?_;go_simp;refine hK _ ?_;clear hK K)
 refine wpG_val (.pointer (some ⟨S.cb,0,none⟩)) (by first | rfl | go_simp) (fun X hX=>by have cc:=hSB _ (hdr.trans0 hX);go_simp) ?_
 simp only [Act.put,jA,jB,jC]
 iterate 3 (refine wpG_pure fun K hK=>?_;go_simp;refine hK _ ?_;clear hK K)
 refine wpG_val (strL S.s) (by first | rfl | go_simp) (fun X hX=>by have cc:=hSB _ (hdr.trans0 hX);go_simp) ?_
 simp only [Act.put,jA,jB,jC]
 refine wpG_one fun K' hK'=>?_
 go_simp
 refine (kM _ hdr).mono ?_
 intro e w2 hor
 rcases hor with ⟨code,hc0,rfl,hf2⟩ | ⟨b,r,jb,mp,hp,rfl,hM,hjz,hmz,hf2⟩
 ·refine hK' _ _ hf2 ?_
  clear hK' K'
  iterate 5 (refine wpG_pure fun K hK=>?_;go_simp;refine hK _ ?_;clear hK K)
  refine wpG_end ?_
  have hfin:=hidIt (hF1.trans0 (hdr.trans0 hf2))
  clear hSB h h1 hO kM
  go_wp2
  go_ret
  exact .inl ⟨code,hc0,rfl,hfin.out⟩
 ·refine hK' _ _ hf2 ?_
  clear hK' K'
  iterate 5 (refine wpG_pure fun K hK=>?_;go_simp;refine hK _ ?_;clear hK K)
  refine wpG_end ?_
  have hne:jb≠mp:=by
   rintro rfl
   obtain ⟨es,c,hm,_⟩:=hM.left
   have:=(mapAt_some.1 hm).symm.trans hM.blk
   cases this
  have h2:=h1.fr0 (hdr.trans0 hf2)
  have hz2:=(hdr.trans0 hf2).size
  have hdz:w1.drew.heap.size=w1.heap.size:=rfl
  have hz1:=hF1.size
  have hset:Fr [S.wb] w2 (w2.setCell ⟨S.wb,8,none⟩ (.pointer (some ⟨jb,0,none⟩))):=(Fr.refl [S.wb] w2).setCell (p:=⟨S.wb,8,none⟩) (.inl (by simp)) _
  have hwl:=h.blk.lt
  have kX:=sBegin_calls (w:=w2.setCell ⟨S.wb,8,none⟩ (.pointer (some ⟨jb,0,none⟩))) S.wb (.merge jb mp b KK false) ((simC S).set 8 (.pointer (some ⟨jb,0,none⟩))) rfl (h2.blk.setCell 8 _)
  have hend:=hidIt (fun w' (hB:Blk w' S.wb ((((simC S).set 8 (.pointer (some ⟨jb,0,none⟩))).set 6 (.int .i64 (JobS.merge jb mp b KK false).kind)).set 7 (JobS.merge jb mp b KK false).face) 65) (hf:Fr [S.wb] (w2.setCell ⟨S.wb,8,none⟩ (.pointer (some ⟨jb,0,none⟩))) w') =>
   h2.begins (X:=w) (j':=.merge jb mp b KK false) (hset.trans' hf) (by
    have e:simC { S with j:=.merge jb mp b KK false }=(((simC S).set 8 (.pointer (some ⟨jb,0,none⟩))).set 6 (.int .i64 (JobS.merge jb mp b KK false).kind)).set 7 (JobS.merge jb mp b KK false).face:=by
     show _=[_,_,_,_,_,_,_,_,_,S.j.pp,_,_,_,_,_,_,_]
     rw [hj]
     rfl
    rw [e]
    exact hB) (by
    have hF:=hset.trans' hf
    exact ⟨⟨hM.blk.fr hF (by simp;omega),hM.left.fr hF (by simp;omega)⟩,hne,hkl⟩) (fun k hk=>by rcases hk with rfl | rfl <;> omega) (hF1.trans0 (hdr.trans0 hf2)) (fun i k hk=>h.sep.low i k hk))
  have d4:=h2.blk.cell
  have df:=h2.blk.frozen
  have dl:=h2.blk.lt
  unfold simC at d4
  simp only [JobS.kind,JobS.face] at kX
  clear hSB h h1 hO kM h2 hM hset hj hf2
  go_wp2_with fail
  refine kX.mono ?_
  rintro e w3 ⟨rfl,hB3,hf3⟩
  have hfin:=hidIt (hend.out w3 hB3 hf3)
  clear kX hB3 hf3 hend
  go_wp2
  go_ret
  exact .inr ⟨b,r,jb,mp,hp,rfl,hfin.out⟩
end
section
variable {w w':World} {S:SimS} {p:List By}
def pbPost (w:World) (S:SimS) (p:List By) (e:Ending) (w':World):Prop :=
 (p=[]∧e=.returned (.int .i64 1)∧Fr [] w w') ∨
 (p≠[]∧∃jb,e=.returned (.int .i64 0)∧SimW w' { S with j:=.pull jb false }∧StepO w (allF (simF S)) w' (allF (simF { S with j:=.pull jb false })))
theorem sPull_calls (h:SimW w S) (hO:OkW S p) (hj:S.j=.none) (kd a g':Int) (va:Option Addr) (vn vc:Nat) (nm:By) (ka:Option Addr) (kn kc:Nat) :
 Calls Tryz.prog 23 #[.pointer (some ⟨S.wb,0,none⟩),.agg (stepC kd a g' (.slice va vn vc) nm [] (.slice ka kn kc)).toArray] w (pbPost w S p):=by
 obtain ⟨w1,hw1⟩:∃w1,Hid (w.alloc (.cells (stepC kd a g' (.slice va vn vc) nm [] (.slice ka kn kc)).toArray 34)=w1):=⟨_,hidIt rfl⟩
 have hF1:Fr [] w w1:=by rw [←hw1.out];exact (Fr.refl [] w).alloc _
 have h1:=h.fr0 hF1
 have c0:=h1.cell
 rw [←hw1.out] at c0
 unfold simC at c0
 simp only [hj,JobS.face] at c0
 obtain ⟨c,hc,_,_⟩:=hO.find
 have kM:=fun X (hX:Fr [] w1 X)=>pBegin_calls S.s p (h1.ch.fr0 hX) hO.path hO.max (by have:=hO.deep;omega)
 unfold pBeginPost at kM
 have hdr:=(Fr.refl [] w1).drew
 have hSB:=fun X (hX:Fr [] w1 X)=>(h1.fr0 hX).cell
 unfold simC at hSB
 simp only [hj,JobS.face,JobS.mp,JobS.pp] at hSB
 unfold pbPost
 have B1:Blk w1 w.heap.size (stepC kd a g' (.slice va vn vc) nm [] (.slice ka kn kc)) 34:=by rw [←hw1.out];exact Blk.new w (stepC kd a g' (.slice va vn vc) nm [] (.slice ka kn kc)) 34
 have he:Value.string ⟨#[]⟩=strL []:=rfl
 rw [he] at kM
 go_enter Tryz.func23,Tryz.ntmps23
 go_wp2_with fail
 rw [hw1.out]
 clear c0 hw1
 refine wp_region_G (fun X=>Fr [] w1.drew X) [(true,0),(true,1),(true,2),(true,3),(true,4),(true,5),(true,6),(true,7),(true,8),(true,9),(false,10),(true,11),(true,12),(true,13),(true,14),(true,15)] (by as_aux_lemma=>kernel_rfl) (by as_aux_lemma=>kernel_rfl) (Fr.refl _ _) ?_
 simp only [inOrder,jD,jE,jF,jG]
 iterate 3 (refine wpG_pure fun K hK=>?_;go_simp;refine hK _ ?_;clear hK K)
 refine wpG_val (.pointer (some ⟨S.cb,0,none⟩)) (by first | rfl | go_simp) (fun X hX=>by have cc:=hSB _ (hdr.trans0 hX);go_simp) ?_
 simp only [Act.put,jA,jB,jC]
 iterate 3 (refine wpG_pure fun K hK=>?_;go_simp;refine hK _ ?_;clear hK K)
 refine wpG_val (strL S.s) (by first | rfl | go_simp) (fun X hX=>by have cc:=hSB _ (hdr.trans0 hX);go_simp) ?_
 simp only [Act.put,jA,jB,jC]
 iterate 1 (refine wpG_pure fun K hK=>?_;go_simp;refine hK _ ?_;clear hK K)
 refine wpG_val (strL []) (by first | rfl | go_simp) (fun X hX=>by have cc:=(B1.fr0 (hdr.trans0 hX)).cell;go_simp) ?_
 simp only [Act.put,jA,jB,jC]
 refine wpG_one fun K' hK'=>?_
 go_simp
 refine (kM _ hdr).mono ?_
 intro e w2 hor
 rcases hor with ⟨hp,rfl,hf2⟩ | ⟨hp,jb,rfl,hM,hjz,hf2⟩
 ·refine hK' _ _ hf2 ?_
  clear hK' K'
  iterate 5 (refine wpG_pure fun K hK=>?_;go_simp;refine hK _ ?_;clear hK K)
  refine wpG_end ?_
  have hfin:=hidIt (hF1.trans0 (hdr.trans0 hf2))
  clear hSB h h1 hO kM
  go_wp2
  go_ret
  exact .inl ⟨hp,rfl,hfin.out⟩
 ·refine hK' _ _ hf2 ?_
  clear hK' K'
  iterate 5 (refine wpG_pure fun K hK=>?_;go_simp;refine hK _ ?_;clear hK K)
  refine wpG_end ?_
  have h2:=h1.fr0 (hdr.trans0 hf2)
  have hz2:=(hdr.trans0 hf2).size
  have hdz:w1.drew.heap.size=w1.heap.size:=rfl
  have hz1:=hF1.size
  have hwl:=h.blk.lt
  have kX:=sBegin_calls (w:=w2) S.wb (.pull jb false) (simC S) rfl h2.blk
  have hend:=hidIt (fun w' (hB:Blk w' S.wb (((simC S).set 6 (.int .i64 (JobS.pull jb false).kind)).set 7 (JobS.pull jb false).face) 65) (hf:Fr [S.wb] w2 w') =>
   h2.begins (X:=w) (j':=.pull jb false) hf (by
    have e:simC { S with j:=.pull jb false }=((simC S).set 6 (.int .i64 (JobS.pull jb false).kind)).set 7 (JobS.pull jb false).face:=by
     show _=[_,_,_,_,_,_,_,_,S.j.mp,S.j.pp,_,_,_,_,_,_,_]
     rw [hj]
     rfl
    rw [e]
    exact hB) (Blk.fr hM hf (by simp;omega)) (fun k hk=>by rw [show k=jb from hk];omega) (hF1.trans0 (hdr.trans0 hf2)) (fun i k hk=>h.sep.low i k hk))
  have d4:=h2.blk.cell
  have df:=h2.blk.frozen
  have dl:=h2.blk.lt
  unfold simC at d4
  simp only [JobS.kind,JobS.face] at kX
  clear hSB h h1 hO kM h2 hM hj hf2
  go_wp2_with fail
  refine kX.mono ?_
  rintro e w3 ⟨rfl,hB3,hf3⟩
  have hfin:=hidIt (hend.out w3 hB3 hf3)
  clear kX hB3 hf3 hend
  go_wp2
  go_ret
  exact .inr ⟨hp,jb,rfl,hfin.out⟩
end
section
variable {w w':World} {S:SimS} {p:List By}
theorem SimW.dirNew (h:SimW w S) {E':List Cel} (hc:DirW w' S.db S.dm E') (hf:Fr [S.dm] w w') (hn:∀k∈feet E',k∈feet S.E∨w.heap.size≤k):SimW w' { S with E:=E' }∧StepO w (allF (simF S)) w' (allF (simF { S with E:=E' })) :=
 h.dirE hc ⟨⟨_,hf,fun k hk _=>by simp only [homes,List.mem_cons];exact .inr (.inl (List.mem_singleton.1 hk))⟩,fun k hk=>by
  simp only [homes,List.mem_cons] at hk ⊢
  rcases hk with hk | hk | hk
  ·exact .inl (.inl hk)
  ·exact .inl (.inr (.inl hk))
  ·rcases hn k hk with h1 | h1
   ·exact .inl (.inr (.inr h1))
   ·exact .inr h1⟩
theorem sBitmap_calls (h:SimW w S) (hO:OkW S p) (kd g':Int) (va:Option Addr) (vn vc:Nat) (nm ot:By) (ka:Option Addr) (kn kc:Nat) (hnm:okName nm=true) (hE:S.E=[]) :
 Calls Tryz.prog 21 #[.pointer (some ⟨S.wb,0,none⟩),.agg (stepC kd 2 g' (.slice va vn vc) nm ot (.slice ka kn kc)).toArray] w fun e w'=>e=.returned (.int .i64 0)∧∃c:Cel,c.x=⟨nm,true,true,2*S.n,2,List.replicate (gran (2*S.n) 2) false⟩∧SimW w' { S with E:=[c] }∧StepO w (allF (simF S)) w' (allF (simF { S with E:=[c] })):=by
 obtain ⟨w1,hw1⟩:∃w1,Hid (w.alloc (.cells (stepC kd 2 g' (.slice va vn vc) nm ot (.slice ka kn kc)).toArray 34)=w1):=⟨_,hidIt rfl⟩
 have hF1:Fr [] w w1:=by rw [←hw1.out];exact (Fr.refl [] w).alloc _
 have B1:Blk w1 w.heap.size (stepC kd 2 g' (.slice va vn vc) nm ot (.slice ka kn kc)) 34:=by rw [←hw1.out];exact Blk.new w (stepC kd 2 g' (.slice va vn vc) nm ot (.slice ka kn kc)) 34
 have h1:=h.fr0 hF1
 have kS:=fun X (hX:Fr [] w1 X)=>sSize_calls (h1.fr0 hX) hO
 have hSB:=fun X (hX:Fr [] w1 X)=>(h1.fr0 hX).cell
 unfold simC at hSB
 have hdr:=(Fr.refl [] w1).drew
 have hn:=hO.n
 have hw:IntKind.i64.wrap ((S.n:Int)*2)=(S.n:Int)*2:=IntWalk.i64_in _ (by omega)
 have hok:okNew ((S.n:Int)*2) 2=true:=by
  have:S.n=1∨S.n=2∨S.n=3∨S.n=4∨S.n=5∨S.n=6:=by omega
  rcases this with e | e | e | e | e | e <;> (rw [e];decide)
 have kN:=fun X=>bNew_yes ((S.n:Int)*2) 2 X hok
 rw [show ((S.n:Int)*2).toNat=2*S.n by omega,show (2:Int).toNat=2 from rfl] at kN
 go_enter Tryz.func21,Tryz.ntmps21
 go_wp2_with fail
 rw [hw1.out]
 clear hw1
 refine wp_region_G (fun X=>Fr [] w1.drew X) [(true,0),(true,2),(true,3),(true,4),(true,5),(true,7),(true,8),(false,1),(true,6),(false,9),(true,10),(true,11),(true,12),(true,13),(true,14)] (by as_aux_lemma=>kernel_rfl) (by as_aux_lemma=>kernel_rfl) (Fr.refl _ _) ?_
 simp only [inOrder,jD,jE,jF,jG]
 iterate 3 (refine wpG_pure fun K hK=>?_;go_simp;refine hK _ ?_;clear hK K)
 iterate 1 (refine wpG_pure fun K hK=>?_;go_simp;refine hK _ ?_;clear hK K)
 refine wpG_val (.int .i64 1) (by first | rfl | go_simp) (fun X hX=>by have cc:=hSB _ (hdr.trans0 hX);go_simp) ?_
 simp only [Act.put,jA,jB,jC]
 iterate 1 (refine wpG_pure fun K hK=>?_;go_simp;refine hK _ ?_;clear hK K)
 refine wpG_val (.int .i64 2) (by first | rfl | go_simp) (fun X hX=>by have cc:=(B1.fr0 (hdr.trans0 hX)).cell;go_simp) ?_
 simp only [Act.put,jA,jB,jC]
 refine wpG_one fun K hK=>?_
 go_simp
 refine (kS _ hdr).mono ?_
 rintro e w2 ⟨rfl,hf2⟩
 refine hK _ _ (hf2) ?_
 clear hK K
 iterate 1 (refine wpG_pure fun K hK=>?_;go_simp;refine hK _ ?_;clear hK K)
 refine wpG_one fun K hK=>?_
 go_simp
 refine (kN w2).mono ?_
 rintro e w3 ⟨tb,bm,rfl,hz1,hz2,hB,hf3⟩
 have hf13:Fr [] w1.drew w3:=hf2.trans0 hf3
 refine hK _ _ (hf13) ?_
 clear hK K
 iterate 5 (refine wpG_pure fun K hK=>?_;go_simp;refine hK _ ?_;clear hK K)
 refine wpG_end ?_
 have hF3:Fr [] w1 w3:=hdr.trans0 hf13
 clear kS kN hf2 hf3
 have hdr3:=(Fr.refl [] w3).drew
 have hF4:=hF3.trans0 hdr3
 have kA:=Add_yes S.db S.dm S.E nm tb bm (2*S.n) 2 _ w3.drew (h1.fr0 hF4).dir hnm (by rw [hE];rfl) (by rw [hE];decide) (hB.fr0 hdr3) (by decide)
 have hS4:=h.fr0 (hF1.trans0 hF4)
 have hS0:=hS4.blk
 have hwk:w.heap.size<w1.heap.size:=B1.lt
 have B4:=B1.fr0 hF4
 have hSC:=fun X (hX:Blk X S.wb (simC S) 65)=>Blk.cell hX
 unfold simC at hSC
 go_wp2_with fail
 have hdm:S.dm<w.heap.size:=h.sep.low 2 S.dm (by show S.dm∈homes S.db S.dm S.E;simp [homes])
 have hdw:S.wb≠S.dm:=fun e=>h.sep.off 0 2 S.dm (by decide) e.symm (by show S.dm∈homes S.db S.dm S.E;simp [homes])
 refine wp_region_G (fun X=>Blk X S.wb (simC S) 65∧Blk X w.heap.size (stepC kd 2 g' (.slice va vn vc) nm ot (.slice ka kn kc)) 34) [(true,0),(true,1),(true,2),(true,3),(true,4),(true,5),(true,6),(false,7),(true,8)] (by as_aux_lemma=>kernel_rfl) (by as_aux_lemma=>kernel_rfl) (⟨hS0,B4⟩) ?_
 simp only [inOrder,jD,jE,jF,jG]
 iterate 3 (refine wpG_pure fun K hK=>?_;go_simp;refine hK _ ?_;clear hK K)
 refine wpG_val (.pointer (some ⟨S.db,0,none⟩)) (by first | rfl | go_simp) (fun X hX=>by have cc:=hSC _ hX.1;go_simp) ?_
 simp only [Act.put,jA,jB,jC]
 iterate 1 (refine wpG_pure fun K hK=>?_;go_simp;refine hK _ ?_;clear hK K)
 refine wpG_val (strL nm) (by first | rfl | go_simp) (fun X hX=>by have cc:=Blk.cell hX.2;go_simp) ?_
 simp only [Act.put,jA,jB,jC]
 iterate 1 (refine wpG_pure fun K hK=>?_;go_simp;refine hK _ ?_;clear hK K)
 refine wpG_one fun K hK=>?_
 go_simp
 refine (kA).mono ?_
 rintro e w5 ⟨rfl,c,hcx,hD,hcf,hf5⟩
 refine hK _ _ (⟨hS0.fr hf5 (by simpa using hdw),B4.fr hf5 (by simp;omega)⟩) ?_
 clear hK K
 iterate 1 (refine wpG_pure fun K hK=>?_;go_simp;refine hK _ ?_;clear hK K)
 refine wpG_end ?_
 rw [hE] at hD
 have hz4:=(hF1.trans0 hF4).size
 obtain ⟨hS5,hst5⟩:=hS4.dirNew (E':=[c]) hD hf5 (fun k hk=>.inr (hcf k (by simpa [feet] using hk)))
 have hfin:=hidIt (And.intro hS5 ((StepO.fr0 (o:=allF (simF S)) (hF1.trans0 hF4)).trans hst5))
 clear hS5 hst5 hS4 hS0 kA hD hSC hSB h h1 hO B1 B4 hB hf5
 go_wp2
 go_ret
 exact ⟨rfl,c,hcx,hfin.out⟩
end
end Go.Proofs.YtffnihooekbcnaaGreat
