/-
  Package push: Begin.
-/
import Derived.Test.YtffnihooekbcnaaGreatG19
import Derived.Test.YtffnihooekbcnaaGreatG33
import Derived.Test.YtffnihooekbcnaaGreatG34
set_option linter.unusedVariables false
set_option maxRecDepth 100000
set_option maxHeartbeats 6400000
namespace Go.Proofs.YtffnihooekbcnaaGreat
open Go.RowKit Go.Maps
attribute [local go_sem] mapAt_alloc mapAt_setCell mapAt_drew mapAt_drewN cells_str store_str eql_str neq_str guard_str len_str
def dirS (D:Nat→Bool) (n m:Nat):List Bool:=(List.range n).map fun k=>(decide (2*k<m) && D (2*k)) || (decide (2*k+1<m) && D (2*k+1))
theorem dirS_len (D:Nat→Bool) (n m:Nat):(dirS D n m).length=n:=by simp [dirS]
theorem dirS_get (D:Nat→Bool) (n m i:Nat) (h:i<(dirS D n m).length):(dirS D n m)[i]=((decide (2*i<m) && D (2*i)) || (decide (2*i+1<m) && D (2*i+1))):=by simp only [dirS,List.getElem_map,List.getElem_range]
theorem dirS_at {D:Nat→Bool} {n k:Nat} (hk:k<n):(dirS D n (2*n)).getD k false=(D (2*k) || D (2*k+1)):=by
 rw [List.getD_eq_getElem?_getD,List.getElem?_eq_getElem (by rw [dirS_len];exact hk),Option.getD_some,dirS_get,decide_eq_true (by omega),decide_eq_true (by omega)]
 rfl
theorem dirS_zero (D:Nat→Bool) (n:Nat):dirS D n 0=List.replicate n false:=by
 refine List.ext_getElem (by simp [dirS]) fun i h1 h2=>?_
 simp [dirS]
theorem dirS_succ (D:Nat→Bool) (n:Nat) {m:Nat} (hm:m<2*n):dirS D n (m+1)=if D m=true then (dirS D n m).set (m / 2) true else dirS D n m:=by
 refine List.ext_getElem (by split <;> simp [dirS]) fun i h1 h2=>?_
 have hi:i<n:=by simpa [dirS] using h1
 rw [dirS_get]
 by_cases e:i=m / 2
 ·by_cases e2:m % 2=0
  ·have hm2:2*i=m:=by omega
   rw [decide_eq_true (p:=2*i<m+1) (by omega),decide_eq_false (p:=2*i+1<m+1) (by omega),hm2]
   split
   ·rename_i h
    rw [List.getElem_set,if_pos e.symm,h]
    rfl
   ·rename_i h
    rw [dirS_get,decide_eq_false (p:=2*i<m) (by omega),decide_eq_false (p:=2*i+1<m) (by omega),Bool.eq_false_iff.2 h]
    rfl
  ·have hm2:2*i+1=m:=by omega
   rw [decide_eq_true (p:=2*i<m+1) (by omega),decide_eq_true (p:=2*i+1<m+1) (by omega),hm2]
   split
   ·rename_i h
    rw [List.getElem_set,if_pos e.symm,h,Bool.true_and,Bool.true_and,Bool.or_true]
   ·rename_i h
    rw [dirS_get,decide_eq_true (p:=2*i<m) (by omega),decide_eq_false (p:=2*i+1<m) (by omega),Bool.eq_false_iff.2 h]
    rfl
 ·have h1':decide (2*i<m+1)=decide (2*i<m):=decide_eq_decide.2 (by omega)
  have h2':decide (2*i+1<m+1)=decide (2*i+1<m):=decide_eq_decide.2 (by omega)
  rw [h1',h2']
  split
  ·rw [List.getElem_set_ne (fun h=>e h.symm),dirS_get]
  ·rw [dirS_get]
section
variable {w w':World} {cb mb n room:Nat} {s:By} {L:List Cd}
def DirtyW (w:World) (n:Nat) (dv:Value) (D:Nat→Bool):Prop :=
 (dv=.pointer none∧∀i,i<2*n→D i=true)∨(∃tb bb g l,dv=.pointer (some ⟨tb,0,none⟩)∧BitW w tb bb (2*n) g l∧∀i:Nat,D i=isB (2*n) g l (i:Int))
def phBegPost (w:World) (cb n:Nat) (s:By) (D:Nat→Bool) (e:Ending) (w':World):Prop :=
 ∃jb lm gm,e=.returned (.tuple #[.pointer (some ⟨jb,0,none⟩),.int .i64 0])∧PshW w' jb lm gm cb n s (fun _=>False) (dirS D n (2*n)) (fun _=>none) false false∧w.heap.size≤jb∧w.heap.size≤lm∧w.heap.size≤gm∧Fr [] w w'
theorem phBegin_calls (dv:Value) (D:Nat→Bool) (c:Cd) (h:ChG noEx w cb mb 1 room L) (hI:ImsK n L) (hc:fK L s=some c) (hsl:s.length≤maxLen) (hn2:n≤256) (hd:DirtyW w n dv D) :
 Calls Tryz.prog 54 #[.pointer (some ⟨cb,0,none⟩),strL s,dv,.int .i64 9] w (phBegPost w cb n s D):=by
 have hcm:=(nlFind_mem hc).1
 have kI:=chImage_calls s h hsl
 rw [hc] at kI
 have hIm:=h.img c hcm (fun h=>h)
 have kS:=fun X (hX:Fr [] w X)=>iSize_calls X (hIm.fr0 hX)
 have kB:=fun X (hX:Fr [] w X)=>iBits_calls X (hIm.fr0 hX)
 simp only [(hI c hcm).2.2] at kS
 simp only [(hI c hcm).2.1] at kB
 clear h hI hIm
 have hdv:dv=.pointer none∨∃tb,dv=.pointer (some ⟨tb,0,none⟩):=by
  rcases hd with ⟨h,_⟩ | ⟨tb,bb,g,l,h,_⟩
  ·exact .inl h
  ·exact .inr ⟨tb,h⟩
 have kD:∀tb,dv=.pointer (some ⟨tb,0,none⟩)→(∀X,Fr [] w X→Calls Tryz.prog 56 #[.pointer (some ⟨tb,0,none⟩)] X fun e w'=>e=.returned (.int .i64 ((n:Int)*2))∧X=w') ∧
  ∀X (i:Nat),Fr [w.heap.size] w X→Calls Tryz.prog 97 #[.pointer (some ⟨tb,0,none⟩),.int .i64 (i:Int)] X fun e w'=>e=.returned (.bool (D i))∧Fr [] X w':=by
  intro tb e
  rcases hd with ⟨h,_⟩ | ⟨tb',bb,g,l,h,hB,hD⟩
  ·rw [h] at e;cases e
  ·rw [h] at e
   injection e with e
   injection e with e
   injection e with e
   subst e
   refine ⟨fun X hX=>?_,fun X i hX=>?_⟩
   ·have:=Sectors_calls _ _ _ _ _ _ (hB.fr0 hX)
    rw [show ((2*n:Nat):Int)=(n:Int)*2 by omega] at this
    exact this
   ·have:=hB.blk.lt
    have hm:bb<w.heap.size:=by obtain ⟨es,c,hm,_⟩:=hB.map;exact mapAt_lt hm
    rw [hD i]
    exact Is_calls _ _ _ _ _ _ _ (hB.fr hX (by simp;omega) (by simp;omega))
 have kN:dv=.pointer none→∀i,i<2*n→D i=true:=by
  rintro rfl
  rcases hd with ⟨_,h⟩ | ⟨tb',bb,g,l,h,_⟩
  ·exact h
  ·cases h
 clear hd
 obtain ⟨S,hS⟩:∃S,Hid (strL s=Value.string S):=⟨_,hidIt rfl⟩
 rw [hS.out] at kI ⊢
 go_enter Tryz.func54,Tryz.ntmps54
 go_wp2_with fail
 refine kI.mono ?_
 rintro e w1 ⟨rfl,hw1⟩
 rw [hw1]
 clear hw1 w1 kI
 rcases hdv with rfl | ⟨tb,rfl⟩
 ·clear kD
  have hkN:=hidIt (kN rfl)
  clear kN
  go_wp2_with fail
  refine (kB w (Fr.refl _ _)).mono ?_
  rintro e w1 ⟨rfl,rfl⟩
  go_wp2_with fail
  refine (kS w (Fr.refl _ _)).mono ?_
  rintro e w1 ⟨rfl,rfl⟩
  have hmm:=@run_makeMap Tryz.prog
  go_wp2_with fail
  obtain ⟨w3,hw3⟩:∃w3,Hid (((w.alloc (Obj.map #[] 0)).alloc (Obj.map #[] 0)).alloc (Obj.cells #[Value.pointer (some { block:=cb,off:=0 }),Value.string S,Value.int IntKind.i64 1,Value.int IntKind.i64 ↑n,Value.int IntKind.i64 9,Value.map (some w.heap.size),Value.map (some (w.heap.size+1)),Value.bool false,Value.bool false] 159)=w3):=⟨_,hidIt rfl⟩
  have hfr0:Fr [] w w3:=by rw [←hw3.out];exact (((Fr.refl [] w).alloc _).alloc _).alloc _
  have hB3:Blk w3 (w.heap.size+1+1) (pushC cb w.heap.size (w.heap.size+1) n s false false) 159:=by
   have x:=Blk.new ((w.alloc (Obj.map #[] 0)).alloc (Obj.map #[] 0)) (pushC cb w.heap.size (w.heap.size+1) n s false false) 159
   rw [World.size_alloc,World.size_alloc] at x
   unfold pushC at x ⊢
   rw [hS.out] at x ⊢
   rw [←hw3.out]
   exact x
  have hL3:SetW w3 w.heap.size (dirS D n 0):=by
   rw [dirS_zero,←hw3.out]
   exact ⟨#[],0,by rw [mapAt_alloc _ (by simp;omega),mapAt_alloc _ (by simp),mapAt_some];exact heap_alloc_new w _,by rw [bitM_empty];exact IsM.empty⟩
  have hG3:GotW w3 (w.heap.size+1) n (fun _=>False) (fun _=>none):=by
   have x:=(GotW.new (w.alloc (Obj.map #[] 0)) n (fun _=>False)).fr0 ((Fr.refl [] _).alloc (Obj.cells #[Value.pointer (some { block:=cb,off:=0 }),Value.string S,Value.int IntKind.i64 1,Value.int IntKind.i64 ↑n,Value.int IntKind.i64 9,Value.map (some w.heap.size),Value.map (some (w.heap.size+1)),Value.bool false,Value.bool false] 159))
   rw [World.size_alloc,hw3.out] at x
   exact x
  rw [hw3.out]
  clear hw3 hmm kB kS hc
  have hfin:=hidIt (And.intro hB3 hG3)
  generalize hlm:w.heap.size=lm at *
  generalize hjb:lm+1+1=jb at *
  generalize hgm:lm+1=gm at *
  have hB4:=hB3.drew
  have cj:=hB4.cell
  unfold pushC at cj
  rw [hS.out] at cj
  have hdr:=(Fr.refl [] w3).drew
  have hL4:=hL3.fr0 hdr
  clear hL3 hG3 hB3
  go_wp2_with fail
  refine wp_region_G (fun X=>X=w3.drew) [(true,0),(true,1),(true,2),(true,3),(true,4),(true,5),(true,6),(true,7),(true,8),(true,9)] (by as_aux_lemma=>kernel_rfl) (by as_aux_lemma=>kernel_rfl) (rfl) ?_
  simp only [inOrder,jD,jE,jF,jG]
  iterate 3 (refine wpG_pure fun K hK=>?_;go_simp;refine hK _ ?_;clear hK K)
  refine wpG_val (.int .i64 (n:Int)) (by first | rfl | go_simp) (fun X hX=>by subst hX;go_simp) ?_
  simp only [Act.put,jA,jB,jC]
  iterate 3 (refine wpG_pure fun K hK=>?_;go_simp;refine hK _ ?_;clear hK K)
  refine wpG_val (.int .i64 1) (by first | rfl | go_simp) (fun X hX=>by subst hX;go_simp) ?_
  simp only [Act.put,jA,jB,jC]
  iterate 2 (refine wpG_pure fun K hK=>?_;go_simp;refine hK _ ?_;clear hK K)
  refine wpG_end ?_
  go_wp2_with fail
  have hlmw:=hfr0.size
  go_loopw [12,56] (fun _ i wr=>∃k:Nat,k≤2*n∧i=.int .i64 (k:Int)∧SetW wr lm (dirS D n k)∧Fr [lm] w3 wr) (fun _ i _=>2*n - (intOf i).toNat)
  case atStart=>exact ⟨0,Nat.zero_le _,rfl,hL4,hdr.weak⟩
  clear hL4 hdr hB4 cj
  obtain ⟨k,hk,rfl,hset,hF⟩:=hrel
  have hB5:=hfin.out.1.fr hF (by simp;omega)
  have hFw:Fr [] w wr:=hfr0.trans1 hF (by omega)
  by_cases hlt:k<2*n
  case neg =>
   have hlt':¬(k:Int)<(n:Int)*2:=by omega
   have hPs:=hidIt (show PshW wr jb lm gm cb n s (fun _=>False) (dirS D n (2*n)) (fun _=>none) false false from ⟨hB5,by rw [show 2*n=k by omega];exact hset,hfin.out.2.fr hF (by simp;omega) (fun _ _ h=>h),dirS_len _ _ _,⟨by omega,by omega,by omega⟩,⟨id,id,id⟩,fun _ h=>h.elim⟩)
   clear hset hB5
   go_wp2
   go_ret2
   exact ⟨jb,lm,gm,rfl,hPs.out,by omega,by omega,by omega,hFw⟩
  have hlt':(k:Int)<(n:Int)*2:=by omega
  have hks:=hidIt (dirS_succ D n hlt)
  go_wp2_with fail
  have hDk0:=hkN.out k hlt
  have hf5:=Fr.refl [] wr
  have hz5:=hf5.size
  have hF5:Fr [lm] w3 wr:=hF.trans0 hf5
  have hset5:=hset
  have hB6:=hB5.fr0 hf5
  clear hset hB5
  cases hDk:D k with
  | false =>
    rw [hDk0] at hDk;cases hDk
  | true =>
  rw [hDk] at hks
  have hB7:=hB6.drew
  have cj:=hB7.cell
  unfold pushC at cj
  refine wp_region_Z 10 (fun X=>X=wr.drew) [(true,0),(true,1),(true,2),(true,3),(true,4),(true,5),(true,6),(true,7),(true,8),(true,9)] (by as_aux_lemma=>kernel_rfl) (by as_aux_lemma=>kernel_rfl) (rfl) ?_
  simp only [inOrder,jD,jE,jF,jG]
  iterate 3 (refine wpG_pure fun K hK=>?_;go_simp;refine hK _ ?_;clear hK K)
  refine wpG_val (.map (some lm)) (by first | rfl | go_simp) (fun X hX=>by subst hX;go_simp) ?_
  simp only [Act.put,jA,jB,jC]
  iterate 4 (refine wpG_pure fun K hK=>?_;go_simp;refine hK _ ?_;clear hK K)
  refine wpG_val (.int .i64 1) (by first | rfl | go_simp) (fun X hX=>by subst hX;go_simp) ?_
  simp only [Act.put,jA,jB,jC]
  iterate 1 (refine wpG_pure fun K hK=>?_;go_simp;refine hK _ ?_;clear hK K)
  refine wpG_last fun K hK=>?_
  go_simp
  obtain ⟨w6,hr6,hset6,hf6⟩:=(hset5.drew).put (k:=k / 2) (by rw [dirS_len];omega) (by rw [dirS_len];omega)
  rw [show ((k / 2:Nat):Int)=(k:Int) / 2 from by omega] at hr6
  have hnx:=hidIt (show SetW w6 lm (dirS D n (k+1))∧Fr [lm] w3 w6 from ⟨by rw [hks.out];simpa using hset6,(hF5.drew).trans' hf6⟩)
  clear hset5 hset6 hf6 hks
  rw [hr6]
  clear hr6
  go_simp
  refine hK _ _ ?_
  clear hK K
  go_wp2_with fail
  exact ⟨⟨k+1,by omega,by go_num,hnx.out.1,hnx.out.2⟩,by show 2*n - ((k:Int)+1).toNat<2*n - ((k:Nat):Int).toNat;omega⟩
 ·clear kN
  have kD:=kD tb rfl
  go_wp2_with fail
  refine (kD.1 w (Fr.refl _ _)).mono ?_
  rintro e w1 ⟨rfl,rfl⟩
  go_wp2_with fail
  refine (kS w (Fr.refl _ _)).mono ?_
  rintro e w1 ⟨rfl,rfl⟩
  go_wp2_with fail
  refine (kB w (Fr.refl _ _)).mono ?_
  rintro e w1 ⟨rfl,rfl⟩
  go_wp2_with fail
  refine (kB w (Fr.refl _ _)).mono ?_
  rintro e w1 ⟨rfl,rfl⟩
  go_wp2_with fail
  refine (kS w (Fr.refl _ _)).mono ?_
  rintro e w1 ⟨rfl,rfl⟩
  have hmm:=@run_makeMap Tryz.prog
  go_wp2_with fail
  obtain ⟨w3,hw3⟩:∃w3,Hid (((w.alloc (Obj.map #[] 0)).alloc (Obj.map #[] 0)).alloc (Obj.cells #[Value.pointer (some { block:=cb,off:=0 }),Value.string S,Value.int IntKind.i64 1,Value.int IntKind.i64 ↑n,Value.int IntKind.i64 9,Value.map (some w.heap.size),Value.map (some (w.heap.size+1)),Value.bool false,Value.bool false] 159)=w3):=⟨_,hidIt rfl⟩
  have hfr0:Fr [] w w3:=by rw [←hw3.out];exact (((Fr.refl [] w).alloc _).alloc _).alloc _
  have hB3:Blk w3 (w.heap.size+1+1) (pushC cb w.heap.size (w.heap.size+1) n s false false) 159:=by
   have x:=Blk.new ((w.alloc (Obj.map #[] 0)).alloc (Obj.map #[] 0)) (pushC cb w.heap.size (w.heap.size+1) n s false false) 159
   rw [World.size_alloc,World.size_alloc] at x
   unfold pushC at x ⊢
   rw [hS.out] at x ⊢
   rw [←hw3.out]
   exact x
  have hL3:SetW w3 w.heap.size (dirS D n 0):=by
   rw [dirS_zero,←hw3.out]
   exact ⟨#[],0,by rw [mapAt_alloc _ (by simp;omega),mapAt_alloc _ (by simp),mapAt_some];exact heap_alloc_new w _,by rw [bitM_empty];exact IsM.empty⟩
  have hG3:GotW w3 (w.heap.size+1) n (fun _=>False) (fun _=>none):=by
   have x:=(GotW.new (w.alloc (Obj.map #[] 0)) n (fun _=>False)).fr0 ((Fr.refl [] _).alloc (Obj.cells #[Value.pointer (some { block:=cb,off:=0 }),Value.string S,Value.int IntKind.i64 1,Value.int IntKind.i64 ↑n,Value.int IntKind.i64 9,Value.map (some w.heap.size),Value.map (some (w.heap.size+1)),Value.bool false,Value.bool false] 159))
   rw [World.size_alloc,hw3.out] at x
   exact x
  rw [hw3.out]
  clear hw3 hmm kB kS hc
  have hfin:=hidIt (And.intro hB3 hG3)
  generalize hlm:w.heap.size=lm at *
  generalize hjb:lm+1+1=jb at *
  generalize hgm:lm+1=gm at *
  have hB4:=hB3.drew
  have cj:=hB4.cell
  unfold pushC at cj
  rw [hS.out] at cj
  have hdr:=(Fr.refl [] w3).drew
  have hL4:=hL3.fr0 hdr
  clear hL3 hG3 hB3
  go_wp2_with fail
  refine wp_region_G (fun X=>X=w3.drew) [(true,0),(true,1),(true,2),(true,3),(true,4),(true,5),(true,6),(true,7),(true,8),(true,9)] (by as_aux_lemma=>kernel_rfl) (by as_aux_lemma=>kernel_rfl) (rfl) ?_
  simp only [inOrder,jD,jE,jF,jG]
  iterate 3 (refine wpG_pure fun K hK=>?_;go_simp;refine hK _ ?_;clear hK K)
  refine wpG_val (.int .i64 (n:Int)) (by first | rfl | go_simp) (fun X hX=>by subst hX;go_simp) ?_
  simp only [Act.put,jA,jB,jC]
  iterate 3 (refine wpG_pure fun K hK=>?_;go_simp;refine hK _ ?_;clear hK K)
  refine wpG_val (.int .i64 1) (by first | rfl | go_simp) (fun X hX=>by subst hX;go_simp) ?_
  simp only [Act.put,jA,jB,jC]
  iterate 2 (refine wpG_pure fun K hK=>?_;go_simp;refine hK _ ?_;clear hK K)
  refine wpG_end ?_
  go_wp2_with fail
  have hlmw:=hfr0.size
  go_loopw [12,56] (fun _ i wr=>∃k:Nat,k≤2*n∧i=.int .i64 (k:Int)∧SetW wr lm (dirS D n k)∧Fr [lm] w3 wr) (fun _ i _=>2*n - (intOf i).toNat)
  case atStart=>exact ⟨0,Nat.zero_le _,rfl,hL4,hdr.weak⟩
  clear hL4 hdr hB4 cj
  obtain ⟨k,hk,rfl,hset,hF⟩:=hrel
  have hB5:=hfin.out.1.fr hF (by simp;omega)
  have hFw:Fr [] w wr:=hfr0.trans1 hF (by omega)
  by_cases hlt:k<2*n
  case neg =>
   have hlt':¬(k:Int)<(n:Int)*2:=by omega
   have hPs:=hidIt (show PshW wr jb lm gm cb n s (fun _=>False) (dirS D n (2*n)) (fun _=>none) false false from ⟨hB5,by rw [show 2*n=k by omega];exact hset,hfin.out.2.fr hF (by simp;omega) (fun _ _ h=>h),dirS_len _ _ _,⟨by omega,by omega,by omega⟩,⟨id,id,id⟩,fun _ h=>h.elim⟩)
   clear hset hB5
   go_wp2
   go_ret2
   exact ⟨jb,lm,gm,rfl,hPs.out,by omega,by omega,by omega,hFw⟩
  have hlt':(k:Int)<(n:Int)*2:=by omega
  have hks:=hidIt (dirS_succ D n hlt)
  go_wp2_with fail
  refine (kD.2 wr k ((hfr0.weak).trans' hF)).mono ?_
  rintro e w5 ⟨rfl,hf5⟩
  have hz5:=hf5.size
  have hF5:Fr [lm] w3 w5:=hF.trans0 hf5
  have hset5:=hset.fr0 hf5
  have hB6:=hB5.fr0 hf5
  clear hset hB5
  cases hDk:D k with
  | false =>
    rw [hDk] at hks
    have hnx:=hidIt (show SetW w5 lm (dirS D n (k+1)) from by rw [hks.out,if_neg (by decide)];exact hset5)
    clear hks hset5
    go_wp2_with fail
    exact ⟨⟨k+1,by omega,by go_num,hnx,hF5⟩,by show 2*n - ((k:Int)+1).toNat<2*n - ((k:Nat):Int).toNat;omega⟩
  | true =>
  rw [hDk] at hks
  go_wp2_with fail
  have hB7:=hB6.drew
  have cj:=hB7.cell
  unfold pushC at cj
  refine wp_region_Z 10 (fun X=>X=w5.drew) [(true,0),(true,1),(true,2),(true,3),(true,4),(true,5),(true,6),(true,7),(true,8),(true,9)] (by as_aux_lemma=>kernel_rfl) (by as_aux_lemma=>kernel_rfl) (rfl) ?_
  simp only [inOrder,jD,jE,jF,jG]
  iterate 3 (refine wpG_pure fun K hK=>?_;go_simp;refine hK _ ?_;clear hK K)
  refine wpG_val (.map (some lm)) (by first | rfl | go_simp) (fun X hX=>by subst hX;go_simp) ?_
  simp only [Act.put,jA,jB,jC]
  iterate 4 (refine wpG_pure fun K hK=>?_;go_simp;refine hK _ ?_;clear hK K)
  refine wpG_val (.int .i64 1) (by first | rfl | go_simp) (fun X hX=>by subst hX;go_simp) ?_
  simp only [Act.put,jA,jB,jC]
  iterate 1 (refine wpG_pure fun K hK=>?_;go_simp;refine hK _ ?_;clear hK K)
  refine wpG_last fun K hK=>?_
  go_simp
  obtain ⟨w6,hr6,hset6,hf6⟩:=(hset5.drew).put (k:=k / 2) (by rw [dirS_len];omega) (by rw [dirS_len];omega)
  rw [show ((k / 2:Nat):Int)=(k:Int) / 2 from by omega] at hr6
  have hnx:=hidIt (show SetW w6 lm (dirS D n (k+1))∧Fr [lm] w3 w6 from ⟨by rw [hks.out];simpa using hset6,(hF5.drew).trans' hf6⟩)
  clear hset5 hset6 hf6 hks
  rw [hr6]
  clear hr6
  go_simp
  refine hK _ _ ?_
  clear hK K
  go_wp2_with fail
  exact ⟨⟨k+1,by omega,by go_num,hnx.out.1,hnx.out.2⟩,by show 2*n - ((k:Int)+1).toNat<2*n - ((k:Nat):Int).toNat;omega⟩
end
section
variable {w w':World} {S:SimS} {p:List By}
def pwS (S:SimS) (nm:By) (jb lm gm:Nat):SimS:={ S with j:=.push jb lm gm (fun _=>False) (dirS (fun _=>true) S.n (2*S.n)) (fun _=>none) false,nm:=nm,pa:=[],zb:=1,zn:=S.n,pv:=(none,0,0),bm:=[],sc:=none }
def pwPost (w:World) (S:SimS) (nm:By) (e:Ending) (w':World):Prop:=e=.returned (.int .i64 0)∧∃jb lm gm,SimW w' (pwS S nm jb lm gm)∧StepO w (allF (simF S)) w' (allF (simF (pwS S nm jb lm gm)))
theorem sPush_whole (h:SimW w S) (hO:OkW S p) (hj:S.j=.none) (kd a:Int) (va:Option Addr) (vn vc:Nat) (nm:By) (ka:Option Addr) (kn kc:Nat) (hnm:okName nm=true) (hnew:nm ∉ S.ys.map fun y=>y.1.nm) (hys:S.ys.length≤1000) (hE:findC S.E []=none) :
 Calls Tryz.prog 24 #[.pointer (some ⟨S.wb,0,none⟩),.agg (stepC kd a 9 (.slice va vn vc) nm [] (.slice ka kn kc)).toArray] w (pwPost w S nm):=by
 obtain ⟨w1,hw1⟩:∃w1,Hid (w.alloc (.cells (stepC kd a 9 (.slice va vn vc) nm [] (.slice ka kn kc)).toArray 34)=w1):=⟨_,hidIt rfl⟩
 have hF1:Fr [] w w1:=by rw [←hw1.out];exact (Fr.refl [] w).alloc _
 have B1:Blk w1 w.heap.size (stepC kd a 9 (.slice va vn vc) nm [] (.slice ka kn kc)) 34:=by rw [←hw1.out];exact Blk.new w (stepC kd a 9 (.slice va vn vc) nm [] (.slice ka kn kc)) 34
 have h1:=h.fr0 hF1
 have c0:=h1.cell
 rw [←hw1.out] at c0
 unfold simC at c0
 simp only [hj,JobS.face] at c0
 have kR:=fun X=>nRight_calls nm X
 rw [hnm] at kR
 have kN:=fun X (hX:Fr [] w1 X)=>lsNames_calls (h1.fr0 hX).lst hys
 have kC:=fun v X hv=>ContainsT_calls v nm (S.ys.map fun y=>y.1.nm) X hv
 rw [decide_eq_false hnew] at kC
 have hSB:=fun X (hX:Fr [] w1 X)=>(h1.fr0 hX).cell
 unfold simC at hSB
 have hdr:=(Fr.refl [] w1).drew
 obtain ⟨cd,hcd,hcdm,hsl⟩:=hO.find
 have kD:=fun X (hX:Fr [] w1 X)=>sDirty_none (h1.fr0 hX) kd a 9 va vn vc nm ka kn kc hE
 have kS:=fun X (hX:Fr [] w1 X)=>sSize_calls (h1.fr0 hX) hO
 have kP:=fun X (hX:Fr [] w1 X)=>phBegin_calls (.pointer none) (fun _=>true) cd (h1.ch.fr0 hX) hO.ims hcd (by unfold maxLen;omega) (by have:=hO.n;omega) (.inl ⟨rfl,fun _ _=>rfl⟩)
 unfold phBegPost at kP
 go_enter Tryz.func24,Tryz.ntmps24
 go_wp2_with fail
 rw [hw1.out]
 clear hw1 c0
 refine wp_region_G (fun X=>Fr [] w1.drew X) [(true,0),(true,1),(false,2),(true,3),(true,4),(true,5),(true,6),(true,7),(true,8),(true,10),(true,11),(false,9),(false,12),(true,13),(true,14)] (by as_aux_lemma=>kernel_rfl) (by as_aux_lemma=>kernel_rfl) (Fr.refl _ _) ?_
 simp only [inOrder,jD,jE,jF,jG]
 iterate 1 (refine wpG_pure fun K hK=>?_;go_simp;refine hK _ ?_;clear hK K)
 refine wpG_val (strL nm) (by first | rfl | go_simp) (fun X hX=>by have cc:=(B1.fr0 (hdr.trans0 hX)).cell;go_simp) ?_
 simp only [Act.put,jA,jB,jC]
 refine wpG_one fun K hK=>?_
 go_simp
 refine (kR _).mono ?_
 rintro e w2 ⟨rfl,hf2⟩
 refine hK _ _ (hf2) ?_
 clear hK K
 iterate 5 (refine wpG_pure fun K hK=>?_;go_simp;refine hK _ ?_;clear hK K)
 refine wpG_val (.pointer (some ⟨S.lb,0,none⟩)) (by first | rfl | go_simp) (fun X hX=>by have cc:=hSB _ (hdr.trans0 hX);go_simp) ?_
 simp only [Act.put,jA,jB,jC]
 iterate 1 (refine wpG_pure fun K hK=>?_;go_simp;refine hK _ ?_;clear hK K)
 refine wpG_val (strL nm) (by first | rfl | go_simp) (fun X hX=>by have cc:=(B1.fr0 (hdr.trans0 hX)).cell;go_simp) ?_
 simp only [Act.put,jA,jB,jC]
 refine wpG_one fun K hK=>?_
 go_simp
 refine (kN _ (hdr.trans0 hf2)).mono ?_
 rintro e w3 ⟨u,rfl,hu,_,hf3⟩
 refine hK _ _ (hf2.trans0 hf3) ?_
 clear hK K
 refine wpG_one fun K hK=>?_
 go_simp
 refine (kC _ _ hu).mono ?_
 rintro e w4 ⟨rfl,hf4⟩
 refine hK _ _ ((hf2.trans0 hf3).trans0 hf4) ?_
 clear hK K
 iterate 2 (refine wpG_pure fun K hK=>?_;go_simp;refine hK _ ?_;clear hK K)
 refine wpG_end ?_
 have hF4:Fr [] w1 w4:=hdr.trans0 ((hf2.trans0 hf3).trans0 hf4)
 clear kR kN kC hu hf2 hf3 hf4
 have b4:=(B1.fr0 hF4).cell
 go_wp2_with fail
 refine (kD _ hF4).mono ?_
 rintro e w5 ⟨rfl,hf5⟩
 have hF5:=hF4.trans0 hf5
 clear kD b4 hf5
 go_wp2_with fail
 have hdr5:=hF5.drew
 refine wp_region_G (fun X=>Fr [] w1 X) [(true,0),(true,1),(true,2),(true,3),(true,4),(true,5),(true,6),(true,7),(true,8),(true,9),(true,10),(false,11),(true,12),(true,13),(true,14),(true,15),(true,16)] (by as_aux_lemma=>kernel_rfl) (by as_aux_lemma=>kernel_rfl) (hdr5) ?_
 simp only [inOrder,jD,jE,jF,jG]
 iterate 3 (refine wpG_pure fun K hK=>?_;go_simp;refine hK _ ?_;clear hK K)
 refine wpG_val (.pointer (some ⟨S.cb,0,none⟩)) (by first | rfl | go_simp) (fun X hX=>by have cc:=hSB _ hX;go_simp) ?_
 simp only [Act.put,jA,jB,jC]
 iterate 3 (refine wpG_pure fun K hK=>?_;go_simp;refine hK _ ?_;clear hK K)
 refine wpG_val (strL S.s) (by first | rfl | go_simp) (fun X hX=>by have cc:=hSB _ hX;go_simp) ?_
 simp only [Act.put,jA,jB,jC]
 iterate 2 (refine wpG_pure fun K hK=>?_;go_simp;refine hK _ ?_;clear hK K)
 refine wpG_val (.int .i64 9) (by first | rfl | go_simp) (fun X hX=>by have cc:=(B1.fr0 hX).cell;go_simp) ?_
 simp only [Act.put,jA,jB,jC]
 refine wpG_one fun K hK=>?_
 go_simp
 refine (kP _ hdr5).mono ?_
 rintro e w6 ⟨jb,lm,gm,rfl,hJ,hz1,hz2,hz3,hf6⟩
 refine hK _ _ (hdr5.trans0 hf6) ?_
 clear hK K
 iterate 5 (refine wpG_pure fun K hK=>?_;go_simp;refine hK _ ?_;clear hK K)
 refine wpG_end ?_
 have hF6:=hdr5.trans0 hf6
 clear kP hf6
 go_wp2_with fail
 have hdr6:=hF6.drew
 obtain ⟨N,hN⟩:∃N,Hid (strL nm=Value.string N):=⟨_,hidIt rfl⟩
 obtain ⟨Z,hZ⟩:∃Z,Hid (strL []=Value.string Z):=⟨_,hidIt rfl⟩
 refine wp_region_Z 15 (Fr [] w1) [(true,0),(true,1),(true,2),(true,3),(true,4),(true,5),(true,6),(true,7),(true,10),(true,11),(false,8),(true,9),(true,12),(false,13),(true,14)] (by as_aux_lemma=>kernel_rfl) (by as_aux_lemma=>kernel_rfl) (hdr6) ?_
 simp only [inOrder,jD,jE,jF,jG]
 iterate 2 (refine wpG_pure fun K hK=>?_;go_simp;refine hK _ ?_;clear hK K)
 refine wpG_val (.string N) (by first | rfl | go_simp) (fun X hX=>by have cc:=(B1.fr0 hX).cell;simp only [stepC,hN.out] at cc;go_simp) ?_
 simp only [Act.put,jA,jB,jC]
 iterate 3 (refine wpG_pure fun K hK=>?_;go_simp;refine hK _ ?_;clear hK K)
 refine wpG_val (.int .i64 1) (by first | rfl | go_simp) (fun X hX=>by have cc:=hSB _ hX;go_simp) ?_
 simp only [Act.put,jA,jB,jC]
 iterate 2 (refine wpG_pure fun K hK=>?_;go_simp;refine hK _ ?_;clear hK K)
 refine wpG_val (.string Z) (by first | rfl | go_simp) (fun X hX=>by have cc:=(B1.fr0 hX).cell;simp only [stepC,hZ.out] at cc;go_simp) ?_
 simp only [Act.put,jA,jB,jC]
 refine wpG_one fun K hK=>?_
 go_simp
 refine (kS _ hdr6).mono ?_
 rintro e w7 ⟨rfl,hf7⟩
 refine hK _ _ (hdr6.trans0 hf7) ?_
 clear hK K
 iterate 2 (refine wpG_pure fun K hK=>?_;go_simp;refine hK _ ?_;clear hK K)
 refine wpG_one fun K hK=>?_
 go_simp
 refine hK _ _ (hdr6.trans0 hf7) ?_
 clear hK K
 iterate 1 (refine wpG_pure fun K hK=>?_;go_simp;refine hK _ ?_;clear hK K)
 have hF7:=hdr6.trans0 hf7
 have h7:=h1.fr0 hF7
 have d7:=h7.blk.cell
 have df:=h7.blk.frozen
 have dl:=h7.blk.lt
 unfold simC at d7
 refine wpG_last fun K hK=>?_
 go_simp
 refine hK _ _ ?_
 clear hK K
 obtain ⟨W8,hW8⟩:∃W8,Hid ((((((((w7.setCell ⟨S.wb,10,none⟩ (.string N)).setCell ⟨S.wb,11,none⟩ (.string ⟨#[]⟩)).setCell ⟨S.wb,12,none⟩ (.int .i64 1)).setCell ⟨S.wb,13,none⟩ (.int .i64 (S.n:Int))).setCell ⟨S.wb,14,none⟩ (.slice none 0 0)).setCell ⟨S.wb,15,none⟩ (.string Z)).setCell ⟨S.wb,16,none⟩ (.pointer none))=W8):=⟨_,hidIt rfl⟩
 have hB8:=((((((h7.blk.setCell 10 (.string N)).setCell 11 (.string ⟨#[]⟩)).setCell 12 (.int .i64 1)).setCell 13 (.int .i64 (S.n:Int))).setCell 14 (.slice none 0 0)).setCell 15 (.string Z)).setCell 16 (.pointer none)
 have hf8:Fr [S.wb] w7 W8:=by
  rw [←hW8.out]
  exact (((((((Fr.refl [S.wb] w7).setCell (p:=⟨S.wb,10,none⟩) (.inl (by simp)) _).setCell (p:=⟨S.wb,11,none⟩) (.inl (by simp)) _).setCell (p:=⟨S.wb,12,none⟩) (.inl (by simp)) _).setCell (p:=⟨S.wb,13,none⟩) (.inl (by simp)) _).setCell (p:=⟨S.wb,14,none⟩) (.inl (by simp)) _).setCell (p:=⟨S.wb,15,none⟩) (.inl (by simp)) _).setCell (p:=⟨S.wb,16,none⟩) (.inl (by simp)) _
 rw [hW8.out] at hB8 ⊢
 clear hW8 d7 df dl
 have d8:=hB8.cell
 have e8:=hB8.frozen
 have l8:=hB8.lt
 unfold simC at d8
 clear kS hSB h1 hO
 go_wp2_with fail
 have hz6:=hdr5.size
 have hdz:=hF1.size
 have kX:=sBegin_calls (w:=W8.setCell ⟨S.wb,9,none⟩ (.pointer (some ⟨jb,0,none⟩))) S.wb (.push jb lm gm (fun _=>False) (dirS (fun _=>true) S.n (2*S.n)) (fun _=>none) false) _ rfl (hB8.setCell 9 (.pointer (some ⟨jb,0,none⟩)))
 have hs9:Fr [S.wb] W8 (W8.setCell ⟨S.wb,9,none⟩ (.pointer (some ⟨jb,0,none⟩))):=(Fr.refl [S.wb] W8).setCell (p:=⟨S.wb,9,none⟩) (.inl (by simp)) _
 simp only [JobS.kind,JobS.face] at kX
 clear d8 e8 l8
 refine kX.mono ?_
 rintro e w9 ⟨rfl,hB9,hf9⟩
 have hF9:=(hf8.trans' hs9).trans' hf9
 have hwl:=h.blk.lt
 have hF67:=hdr6.trans0 hf7
 have hJ7:=hJ.fr0 (((Fr.refl [] w6).drew).trans0 hf7)
 have hfin:=hidIt (h7.pushes (S':=pwS S nm jb lm gm) (X:=w) hF9 (by
  have e:simC (pwS S nm jb lm gm)=[.int .i64 1,strL S.s,.pointer (some ⟨S.cb,0,none⟩),.pointer (some ⟨S.db,0,none⟩),.pointer (some ⟨S.fb,0,none⟩),.pointer (some ⟨S.lb,0,none⟩),.int .i64 3,.iface 57 (.pointer (some ⟨jb,0,none⟩)),S.j.mp,.pointer (some ⟨jb,0,none⟩),.string N,.string ⟨#[]⟩,.int .i64 1,.int .i64 (S.n:Int),.slice none 0 0,.string Z,.pointer none]:=by
   rw [←hN.out,←hZ.out,hj]
   rfl
  rw [e]
  exact hB9) (PshW.fr hJ7 hF9 (fun k hk=>by
   rw [List.mem_singleton.1 hk]
   rintro (h9 | h9 | h9 | h9)
   ·omega
   ·omega
   ·omega
   ·exact h9)) (fun x hx=>by cases hx) (fun i h5 h6=>by
  match i,h5,h6 with
  | 0,_,_=>rfl
  | 1,_,_=>rfl
  | 2,_,_=>rfl
  | 3,_,_=>rfl
  | 4,_,_=>rfl
  | 5,h5,_=>exact absurd rfl h5
  | 6,_,h6=>exact absurd rfl h6
  | _+7,_,_=>rfl) (fun K=>⟨K.ch (by decide),K.dir (by decide),K.fil (by decide),K.lst (by decide)⟩) (fun k hk=>by
    rcases hk with rfl | rfl | rfl | hk
    ·omega
    ·omega
    ·omega
    ·exact hk.elim) (fun k hk=>hk.elim) (fun k hk h9=>h9.elim) (hF1.trans0 hF7) (fun i k hk=>h.sep.low i k hk))
 clear kX hB9 hf9 h7 hJ hJ7 h hj
 go_wp2
 go_ret
 exact ⟨rfl,jb,lm,gm,hfin.out⟩
end
end Go.Proofs.YtffnihooekbcnaaGreat
