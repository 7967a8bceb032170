/-
  Package bits: Clear.
-/
import Derived.Test.YtffnihooekbcnaaGreatG01
set_option maxRecDepth 100000
set_option maxHeartbeats 6400000
namespace Go.Proofs.YtffnihooekbcnaaGreat
open Go.RowKit Go.Maps
attribute [local go_sem] mapAt_alloc mapAt_setCell mapAt_drew mapAt_drewN
theorem nat_beq {f n S:Nat} (hq:((f:Int)+n == (S:Int))=true):f+n=S:=by
 have:=eq_of_beq hq
 omega
theorem nat_bne {f n S:Nat} (hq:((f:Int)+n == (S:Int))=false):¬f+n=S:=by
 have:=ne_of_beq_false hq
 omega
theorem Clear_yes (tb mb S g:Nat) (l:List Bool) (f n:Nat) (w:World) (h:BitW w tb mb S g l) (hin:f+n≤S) :
 Calls Tryz.prog 154 #[.pointer (some ⟨tb,0,none⟩),.int .i64 (f:Int),.int .i64 (n:Int)] w
  fun r w'=>r=.returned (.int .i64 0)∧BitW w' tb mb S g (bClear S g l f n)∧Fr [mb] w w':=by
 have ct:=h.blk.cell
 have hS:=h.size
 have hg:=h.grain
 have hle:=gran_le h.size hg.1
 have hlen:=h.len
 have hins:insideB S f n:=⟨by omega,by omega,by omega,by omega⟩
 have hg0:(0:Int)<g:=by omega
 have hgn:¬(g:Int)=0:=by omega
 have hgz:¬g=0:=by omega
 have hq1:Int.tdiv ((f:Int)+g - 1) g=(((f+g - 1) / g:Nat):Int):=by
  have e:(f:Int)+g - 1=((f+g - 1:Nat):Int):=by omega
  rw [e,Int.ofNat_tdiv]
 have hq2:Int.tdiv ((f:Int)+n) g=(((f+n) / g:Nat):Int):=by
  have e:(f:Int)+n=((f+n:Nat):Int):=by omega
  rw [e,Int.ofNat_tdiv]
 have Hfill:=hidIt (fill_clear (f:=f) (n:=n) hg.1 hlen hin)
 have hd1:=Nat.div_le_self (f+g - 1) g
 have hd2:=Nat.div_le_self (f+n) g
 have hend:(f+n) / g≤l.length:=by
  rw [hlen]
  exact Nat.div_le_div_right (by omega)
 generalize (f+n) / g=E at *
 generalize (f+g - 1) / g=A at *
 have hw1:IntKind.i64.wrap ((f:Int)+g)=(f:Int)+g:=IntWalk.i64_in _ (by omega)
 have hw2:IntKind.i64.wrap ((f:Int)+g - 1)=(f:Int)+g - 1:=IntWalk.i64_in _ (by omega)
 have hwE:IntKind.i64.wrap (E:Int)=(E:Int):=IntWalk.i64_in _ (by omega)
 have hwA:IntKind.i64.wrap (A:Int)=(A:Int):=IntWalk.i64_in _ (by omega)
 have B3:=(Blk.new w [.pointer (some ⟨tb,0,none⟩)] 61)
 have c3:=B3.cell
 have hlt:=h.lt.1
 go_enter Tryz.func154,Tryz.ntmps154
 go_wp2_with fail
 ·have h0:f+n=S:=nat_beq (by assumption)
  refine (granules_calls tb mb S g l _ (h.fr0 ((Fr.refl _ _).alloc _))).mono ?_
  rintro r w1 ⟨rfl,hf1⟩
  replace B3:=B3.fr0 hf1
  have c3:=B3.cell
  replace h:=h.fr0 (((Fr.refl _ _).alloc _).trans0 hf1)
  have hF1:=((Fr.refl [mb] w).alloc (.cells #[.pointer (some ⟨tb,0,none⟩)] 61)).trans0 hf1
  have ct:=h.blk.cell
  go_wp2_with fail
  refine wp_region_still_tail 17 bFollows (by as_aux_lemma=>kernel_rfl) ?_
  simp only [List.take_succ_cons,List.take_zero,List.drop_succ_cons,List.drop_zero]
  change wpStill _ _ (World.drew _) _ _ _
  iterate 17 still_step
  refine wpStill_nil ?_
  change wpList _ _ _ _ _ (World.drew _)
  go_wp2_with fail
  refine (each_clear tb mb S g w.heap.size l f n A (gran S g:Nat) _ (h.fr0 ((Fr.refl _ _).drew)) (B3.drew) hins (by omega) (by omega)).mono ?_
  rintro r w2 ⟨rfl,hB,hf⟩
  go_wp2
  go_ret
  exact ⟨rfl,by rw [←Hfill.out,if_pos h0];simpa using hB,hF1.drew.trans' hf⟩
 ·have h0:¬f+n=S:=nat_bne (by assumption)
  refine wp_region_still_tail 17 bFollows (by as_aux_lemma=>kernel_rfl) ?_
  simp only [List.take_succ_cons,List.take_zero,List.drop_succ_cons,List.drop_zero]
  change wpStill _ _ (World.drew _) _ _ _
  iterate 17 still_step
  refine wpStill_nil ?_
  change wpList _ _ _ _ _ (World.drew _)
  go_wp2_with fail
  refine (each_clear tb mb S g w.heap.size l f n A E _ (h.fr0 (((Fr.refl _ _).alloc _).drew)) (B3.drew) hins (by omega) (by omega)).mono ?_
  rintro r w2 ⟨rfl,hB,hf⟩
  go_wp2
  go_ret
  exact ⟨rfl,by rw [←Hfill.out];simpa [h0] using hB,(((Fr.refl [mb] w).alloc _).drew).trans' hf⟩
theorem bSet_no (tb mb S g:Nat) (l:List Bool) (f n:Int) (w:World) (h:BitW w tb mb S g l) (fw:-9223372036854775808≤n∧n≤9223372036854775807) (hin:¬insideB S f n) :
 Calls Tryz.prog 78 #[.pointer (some ⟨tb,0,none⟩),.int .i64 f,.int .i64 n] w
  fun r w'=>r=.returned (.int .i64 1)∧Fr [] w w':=by
 have ct:=h.blk.cell
 have hg:=h.grain
 have hg0:(0:Int)<g:=by omega
 have hgn:¬(g:Int)=0:=by omega
 have hgz:¬g=0:=by omega
 have B3:=(Blk.new w [.pointer (some ⟨tb,0,none⟩)] 61)
 have c3:=B3.cell
 have hlt:=h.lt.1
 by_cases h0:n=0
 ·subst h0
  go_enter Tryz.func78,Tryz.ntmps78
  go_wp2_with fail
  go_quiet (fail)
  go_wp2_with fail
  refine wp_region_still_tail 11 bFollows (by as_aux_lemma=>kernel_rfl) ?_
  simp only [List.take_succ_cons,List.take_zero,List.drop_succ_cons,List.drop_zero]
  change wpStill _ _ (World.drew _) _ _ _
  iterate 11 still_step
  refine wpStill_nil ?_
  change wpList _ _ _ _ _ (World.drew _)
  go_wp2_with fail
  refine (each_no tb mb S g l f 0 _ _ _ _ (h.fr0 (((Fr.refl _ _).alloc _).drewN _)) fw hin).mono ?_
  rintro r w2 ⟨rfl,rfl⟩
  go_wp2
  go_ret
  exact ⟨rfl,(((Fr.refl [] w).alloc _).drewN _)⟩
 ·go_enter Tryz.func78,Tryz.ntmps78
  go_wp2_with fail
  go_quiet (fail)
  go_wp2_with fail
  refine wp_region_still_tail 11 bFollows (by as_aux_lemma=>kernel_rfl) ?_
  simp only [List.take_succ_cons,List.take_zero,List.drop_succ_cons,List.drop_zero]
  change wpStill _ _ (World.drew _) _ _ _
  iterate 11 still_step
  refine wpStill_nil ?_
  change wpList _ _ _ _ _ (World.drew _)
  go_wp2_with fail
  refine (each_no tb mb S g l f n _ _ _ _ (h.fr0 (((Fr.refl _ _).alloc _).drewN _)) fw hin).mono ?_
  rintro r w2 ⟨rfl,rfl⟩
  go_wp2
  go_ret
  exact ⟨rfl,(((Fr.refl [] w).alloc _).drewN _)⟩
theorem Clear_no (tb mb S g:Nat) (l:List Bool) (f n:Int) (w:World) (h:BitW w tb mb S g l) (fw:-9223372036854775808≤n∧n≤9223372036854775807) (hin:¬insideB S f n) :
 Calls Tryz.prog 154 #[.pointer (some ⟨tb,0,none⟩),.int .i64 f,.int .i64 n] w
  fun r w'=>r=.returned (.int .i64 1)∧Fr [] w w':=by
 have ct:=h.blk.cell
 have hg:=h.grain
 have hg0:(0:Int)<g:=by omega
 have hgn:¬(g:Int)=0:=by omega
 have hgz:¬g=0:=by omega
 have B3:=(Blk.new w [.pointer (some ⟨tb,0,none⟩)] 61)
 have c3:=B3.cell
 have hlt:=h.lt.1
 go_enter Tryz.func154,Tryz.ntmps154
 go_wp2_with fail
 ·refine (granules_calls tb mb S g l _ (h.fr0 ((Fr.refl _ _).alloc _))).mono ?_
  rintro r w1 ⟨rfl,hf1⟩
  replace B3:=B3.fr0 hf1
  have c3:=B3.cell
  replace h:=h.fr0 (((Fr.refl _ _).alloc _).trans0 hf1)
  have hF1:=((Fr.refl [] w).alloc (.cells #[.pointer (some ⟨tb,0,none⟩)] 61)).trans0 hf1
  have ct:=h.blk.cell
  go_wp2_with fail
  refine wp_region_still_tail 17 bFollows (by as_aux_lemma=>kernel_rfl) ?_
  simp only [List.take_succ_cons,List.take_zero,List.drop_succ_cons,List.drop_zero]
  change wpStill _ _ (World.drew _) _ _ _
  iterate 17 still_step
  refine wpStill_nil ?_
  change wpList _ _ _ _ _ (World.drew _)
  go_wp2_with fail
  refine (each_no tb mb S g l f n _ _ _ _ (h.fr0 ((Fr.refl _ _).drew)) fw hin).mono ?_
  rintro r w2 ⟨rfl,rfl⟩
  go_wp2
  go_ret
  exact ⟨rfl,hF1.drew⟩
 ·skip
  refine wp_region_still_tail 17 bFollows (by as_aux_lemma=>kernel_rfl) ?_
  simp only [List.take_succ_cons,List.take_zero,List.drop_succ_cons,List.drop_zero]
  change wpStill _ _ (World.drew _) _ _ _
  iterate 17 still_step
  refine wpStill_nil ?_
  change wpList _ _ _ _ _ (World.drew _)
  go_wp2_with fail
  refine (each_no tb mb S g l f n _ _ _ _ (h.fr0 (((Fr.refl _ _).alloc _).drew)) fw hin).mono ?_
  rintro r w2 ⟨rfl,rfl⟩
  go_wp2
  go_ret
  exact ⟨rfl,(((Fr.refl [] w).alloc _).drew)⟩
def pow2 (g:Int):Bool:=decide (g=1) || decide (g=2) || decide (g=4) || decide (g=8) || decide (g=16) || decide (g=32) || decide (g=64)
theorem pow2_and {g:Int} (h1:1≤g) (h2:g≤64):(bits BinOp.and IntKind.i64 g (g - 1) != 0)=!pow2 g:=by
 obtain ⟨n,rfl⟩:=Int.eq_ofNat_of_zero_le (by omega:0≤g)
 have hn:n<65:=by omega
 have h0:1≤n:=by omega
 have key:∀m:Fin 65,1≤m.val→(bits BinOp.and IntKind.i64 (m.val:Int) ((m.val:Int) - 1) != 0)=!pow2 (m.val:Int):=by decide
 exact key ⟨n,hn⟩ h0
theorem pow2_le {g:Int} (h:pow2 g=true):1≤g∧g≤64:=by
 simp [pow2] at h
 omega
def okNew (s g:Int):Bool:=okSec s && pow2 g
theorem bitM_empty (n:Nat):bitM (List.replicate n false)=fun _=>none:=by
 funext x
 cases x with
 | int q k =>
   cases q with
   | i64 =>
     rw [bitM_int,if_neg]
     rintro ⟨_,h⟩
     rw [List.getD_eq_getElem?_getD,List.getElem?_replicate] at h
     split at h <;> simp at h
   | _=>rfl
 | _=>rfl
theorem BitW_new (S g:Nat) (w:World) (h:S≤4096) (hg:0<g∧g≤64):BitW ((w.alloc (.map #[] 0)).alloc (.cells #[.int .i64 S,.int .i64 g,.map (some w.heap.size)] 140)) (w.heap.size+1) w.heap.size S g (List.replicate (gran S g) false):=by
 refine ⟨?_,h,hg,by simp,#[],0,?_,?_⟩
 ·have:=Blk.new (w.alloc (.map #[] 0)) [.int .i64 S,.int .i64 g,.map (some w.heap.size)] 140
  rw [World.size_alloc] at this
  exact this
 ·rw [mapAt_some,Below.heap_alloc _ _ _ (by simp)]
  exact heap_alloc_new w _
 ·rw [bitM_empty];exact IsM.empty
theorem bNew_no (s g:Int) (w:World) (h:okNew s g=false):Calls Tryz.prog 46 #[.int .i64 s,.int .i64 g] w
 fun r w'=>r=.returned (.tuple #[.pointer none,.int .i64 1])∧w=w':=by
 by_cases hs:okSec s=true
 ·have hp:pow2 g=false:=by simpa [okNew,hs] using h
  by_cases h1:g<1
  ·go_enter Tryz.func46,Tryz.ntmps46
   go_wp2_with fail
   refine (bRight_calls _ _).mono ?_
   rintro e w1 ⟨rfl,rfl⟩
   rw [hs]
   go_wp2
   go_ret2
   exact ⟨rfl,rfl⟩
  ·by_cases h2:64<g
   ·have h1':1≤g:=by omega
    clear h1
    go_enter Tryz.func46,Tryz.ntmps46
    go_wp2_with fail
    refine (bRight_calls _ _).mono ?_
    rintro e w1 ⟨rfl,rfl⟩
    rw [hs]
    go_wp2
    go_ret2
    exact ⟨rfl,rfl⟩
   ·have hb:=pow2_and (by omega:1≤g) (by omega:g≤64)
    rw [hp] at hb
    have h1':1≤g:=by omega
    have h2':g≤64:=by omega
    clear h1 h2
    go_enter Tryz.func46,Tryz.ntmps46
    go_wp2_with fail
    refine (bRight_calls _ _).mono ?_
    rintro e w1 ⟨rfl,rfl⟩
    rw [hs]
    go_wp2
    go_ret2
    exact ⟨rfl,rfl⟩
 ·have hs':okSec s=false:=by simpa using hs
  go_enter Tryz.func46,Tryz.ntmps46
  go_wp2_with fail
  refine (bRight_calls _ _).mono ?_
  rintro e w1 ⟨rfl,rfl⟩
  rw [hs']
  go_wp2
  go_ret2
  exact ⟨rfl,rfl⟩
theorem bNew_yes (s g:Int) (w:World) (h:okNew s g=true):Calls Tryz.prog 46 #[.int .i64 s,.int .i64 g] w
 fun r w'=>∃tb mb,r=.returned (.tuple #[.pointer (some ⟨tb,0,none⟩),.int .i64 0])∧w.heap.size≤tb∧w.heap.size≤mb∧BitW w' tb mb s.toNat g.toNat (List.replicate (gran s.toNat g.toNat) false)∧Fr [] w w':=by
 have hs:okSec s=true:=by simp [okNew] at h;exact h.1
 have hp:pow2 g=true:=by simp [okNew] at h;exact h.2
 have hg:=pow2_le hp
 have hb:=pow2_and hg.1 hg.2
 rw [hp] at hb
 have h1':=hg.1
 have h2':=hg.2
 have hmm:=@run_makeMap Tryz.prog
 have hs1:0≤s∧s≤4096:=by simpa [okSec] using hs
 have hW:=hidIt (BitW_new s.toNat g.toNat w (by omega) (by omega))
 have e1:((s.toNat:Nat):Int)=s:=by omega
 have e2:((g.toNat:Nat):Int)=g:=by omega
 rw [e1,e2] at hW
 generalize hS:s.toNat=S at *
 generalize hG:g.toNat=G at *
 clear e1 e2 hS hG
 go_enter Tryz.func46,Tryz.ntmps46
 go_wp2_with fail
 refine (bRight_calls _ _).mono ?_
 rintro e w1 ⟨rfl,rfl⟩
 rw [hs]
 go_wp2
 go_ret2
 exact ⟨w.heap.size+1,w.heap.size,rfl,by omega,Nat.le_refl _,hW.out,((Fr.refl _ _).alloc _).alloc _⟩
def cnt (l:List Bool):Nat:=((List.range l.length).filter fun k=>l.getD k false).length
theorem cnt_size {es:Array MapEntry} {clock:Nat} {l:List Bool} (hi:IsM Tryz.prog 3 es clock (bitM l)):es.size=cnt l:=by
 have:=hi.size (ks:=((List.range l.length).filter fun k=>l.getD k false).map fun k:Nat=>Value.int .i64 (k:Int)) ?_ ?_
 ·rw [this,List.length_map];rfl
 ·rw [List.pairwise_map]
  exact (List.Pairwise.filter _ List.nodup_range).imp (fun {a b} hab h=>hab (by have:=(Value.int.inj h).2;omega))
 ·intro x
  simp only [List.mem_map,List.mem_filter,List.mem_range]
  constructor
  ·rintro ⟨k,⟨_,h⟩,rfl⟩
   rw [bitM_int,if_pos ⟨by omega,by simpa using h⟩]
   rfl
  ·intro h
   cases x with
   | int q k =>
     cases q with
     | i64 =>
       rw [bitM_int] at h
       by_cases hc:0≤k∧l.getD k.toNat false=true
       ·refine ⟨k.toNat,⟨?_,hc.2⟩,by rw [Int.toNat_of_nonneg hc.1]⟩
        have:=hc.2
        rw [List.getD_eq_getElem?_getD] at this
        by_cases hl:k.toNat<l.length
        ·exact hl
        ·rw [List.getElem?_eq_none (by omega)] at this
         cases this
       ·rw [if_neg hc] at h
        cases h
     | _=>cases h
   | _=>cases h
theorem cnt_le (l:List Bool):cnt l≤l.length:=by
 unfold cnt
 have:=List.length_filter_le (fun k=>l.getD k false) (List.range l.length)
 simpa using this
end Go.Proofs.YtffnihooekbcnaaGreat
