/-
  Package image: pieces, and what its iterator hands out.
-/
import Derived.Test.YtffnihooekbcnaaGreatG06
import Derived.Test.YtffnihooekbcnaaGreatSeq
import Derived.RangeFuncBound
import Derived.Shelf.RegionOpen
import Derived.OwnWalkIn
import Derived.TacticsInMore
import Derived.LoopNIn
import Derived.LoopIn
set_option maxRecDepth 100000
set_option maxHeartbeats 6400000
namespace Go.Proofs.YtffnihooekbcnaaGreat
open Go.RowKit Go.Maps
attribute [local go_sem] Oper.semAt_some
section
variable {ib:Nat} {p:Pl} {M:Img}
def pieceV (z a l k:Nat):Value:=.agg #[.int .i64 (pcC z a k:Nat),.int .i64 (pcFr z a k:Nat),.int .i64 (pcTo z a l k:Nat),.int .i64 (pcAt z a k:Nat)]
def piecesPost (w:World) (ib a l:Nat) (e:Ending) (w':World):Prop:=∃b1 b2 b3,e=.returned (.func (.func 174) #[] #[.pointer (some ⟨b1,0,none⟩),.pointer (some ⟨b2,0,none⟩),.pointer (some ⟨b3,0,none⟩)]) ∧
 Blk w' b1 [.pointer (some ⟨ib,0,none⟩)] 112∧Blk w' b2 [.int .i64 (a:Int)] 3∧Blk w' b3 [.int .i64 (l:Int)] 3∧Fr [] w w'∧w.heap.size≤b1∧w.heap.size≤b2∧w.heap.size≤b3
theorem iPieces_calls (a l:Nat) (w:World):Calls Tryz.prog 129 #[.pointer (some ⟨ib,0,none⟩),.int .i64 (a:Int),.int .i64 (l:Int)] w (piecesPost w ib a l):=by
 go_enter Tryz.func129,Tryz.ntmps129
 go_wp2
 go_ret
 exact ⟨_,_,_,rfl,((Blk.new w [_] _).alloc _).alloc _,(Blk.new' (by simp) [_] _).alloc _,Blk.new' (by simp) [_] _,(((Fr.refl _ _).alloc _).alloc _).alloc _,Nat.le_refl _,by omega,by omega⟩
theorem pieces_seq (b1 b2 b3 a l:Nat) (w:World) (h:ImgW w ib p M) (hB:M.B≤3) (hal:a+l≤4096) (h1:Blk w b1 [.pointer (some ⟨ib,0,none⟩)] 112) (h2:Blk w b2 [.int .i64 (a:Int)] 3) (h3:Blk w b3 [.int .i64 (l:Int)] 3) :
 Seq Tryz.prog 174 #[.pointer (some ⟨b1,0,none⟩),.pointer (some ⟨b2,0,none⟩),.pointer (some ⟨b3,0,none⟩)] [] (fun x=>x=b3) (pcN M.z a l) (fun k _ args=>args=#[pieceV M.z a l k]) w:=by
 intro lp J Jx fp W hFW hl1 hl2 hst hsx hfp hJ hY
 have hz:0<M.z∧M.z≤128:=by
  unfold Img.z
  have:2 ^ M.B≤2 ^ 3:=Nat.pow_le_pow_right (by omega) hB
  have:=Nat.two_pow_pos M.B
  omega
 have kB:=iBytes_calls W (h.fr0 hFW) hB
 have B1:=h1.fr0 hFW
 have B2:=h2.fr0 hFW
 have B3:=h3.fr0 hFW
 have c1:=B1.cell
 have hHk:∀k,Hid (k<pcN M.z a l ↔ 0<l∧pcC M.z a k*M.z<16*(a+l)):=fun k=>hidIt (pc_lt hz.1)
 have hHf:∀k,k<pcN M.z a l→Hid (pcFr M.z a k<pcTo M.z a l k∧pcTo M.z a l k≤M.z∧pcC M.z a k*M.z+pcTo M.z a l k≤16*(a+l)∧pcFr M.z a k=16*a - pcC M.z a k*M.z∧pcTo M.z a l k=min (16*(a+l) - pcC M.z a k*M.z) M.z∧pcAt M.z a k=pcC M.z a k*M.z+pcFr M.z a k - 16*a∧16*a≤pcC M.z a k*M.z+pcFr M.z a k):=fun k hk=>by
  have:=pc_facts hz.1 hk
  exact hidIt ⟨this.1,this.2.1,this.2.2.1,rfl,rfl,rfl,this.2.2.2.2.1⟩
 have hH0:Hid (16*a / M.z=pcC M.z a 0):=hidIt rfl
 have hHs:∀k,Hid (pcC M.z a (k+1)=pcC M.z a k+1):=fun k=>hidIt rfl
 refine callsIn_of_wp Tryz.func174 rfl trivial ?_ rfl
 simp only [Tryz.ntmps174,List.size_toArray,List.length_cons,List.length_nil,Nat.reduceAdd,Nat.reduceSub,Array.replicate_succ,Array.replicate_zero,List.push_toArray,List.append_toArray,List.nil_append,List.cons_append]
 gi_wp2_with fail
 refine ⟨trivial,rfl,(callsIn_wide.2 kB).mono ?_⟩
 rintro e w1 ⟨rfl,rfl⟩
 have hdr:Fr [] W W.drew:=(Fr.refl [] W).drew
 have hJ1:=hst 0 fp W W.drew [] hJ hdr (fun x h=>by cases h)
 have d2:=B2.drew
 have d3:=B3.drew
 have hw1:IntKind.i64.wrap ((a:Int)*16)=((16*a:Nat):Int):=(IntWalk.i64_in _ (by omega)).trans (by omega)
 have hw2:IntKind.i64.wrap ((a:Int)+(l:Int))=((a+l:Nat):Int):=(IntWalk.i64_in _ (by omega)).trans (by omega)
 have hw3:IntKind.i64.wrap (((a:Int)+(l:Int))*16)=((a:Int)+(l:Int))*16:=IntWalk.i64_in _ (by omega)
 clear h h1 h2 h3 kB
 gi_wp2_with fail
 refine wpIn_wide.2 ?_
 refine wp_region_G (Fr [] W.drew) [(true,0),(true,1),(true,2),(true,3),(true,4),(true,5),(true,6),(true,7)] (by as_aux_lemma=>kernel_rfl) (by as_aux_lemma=>kernel_rfl) (Fr.refl _ _) ?_
 simp only [inOrder,jD,jE,jF,jG]
 refine wpG_val (.int .i64 (a:Int)) (by first | rfl | go_simp) (fun X hX=>by have cc:=(d2.fr0 hX).cell;go_simp) ?_
 simp only [Act.put,jA,jB,jC]
 iterate 1 (refine wpG_pure fun K hK=>?_;go_simp;refine hK _ ?_;clear hK K)
 refine wpG_val (.int .i64 (a:Int)) (by first | rfl | go_simp) (fun X hX=>by have cc:=(d2.fr0 hX).cell;go_simp) ?_
 simp only [Act.put,jA,jB,jC]
 refine wpG_val (.int .i64 (l:Int)) (by first | rfl | go_simp) (fun X hX=>by have cc:=(d3.fr0 hX).cell;go_simp) ?_
 simp only [Act.put,jA,jB,jC]
 iterate 4 (refine wpG_pure fun K hK=>?_;go_simp;refine hK _ ?_;clear hK K)
 refine wpG_end ?_
 obtain ⟨lo,hlo⟩:∃lo:Nat,lo=16*a:=⟨_,rfl⟩
 obtain ⟨hi,hhi⟩:∃hi:Nat,hi=16*(a+l):=⟨_,rfl⟩
 have e1:(16:Int)*(a:Int)=(lo:Int):=by omega
 have e2:((a:Int)+(l:Int))*16=(hi:Int):=by omega
 rw [e1,e2]
 have hc0:(lo:Int) / (M.z:Int)=((pcC M.z a 0:Nat):Int):=by rw [←hH0.out,hlo];omega
 have hC0:pcC M.z a 0≤65536:=by rw [←hH0.out];exact Nat.le_trans (Nat.div_le_self _ _) (by omega)
 have hhib:hi≤65536:=by omega
 rw [←hhi] at hHk hHf
 rw [←hlo] at hHf
 have hlohi:lo≤hi:=by omega
 clear e1 e2 hlo hhi hw1 hw2 hw3 hH0 hdr B1 B2 c1
 obtain ⟨N,hNq⟩:∃N,Hid (N=pcN M.z a l):=⟨_,hidIt rfl⟩
 rw [←hNq.out] at hHk hHf hY
 have hY':=fun k f A h1 h2=>hY k f A #[pieceV M.z a l k] h1 h2 rfl
 unfold pieceV at hY'
 generalize hC:pcC M.z a=C at *
 generalize pcFr M.z a=F at *
 generalize pcTo M.z a l=T at *
 generalize pcAt M.z a=A0 at *
 generalize M.z=z at hz hc0 hHk hHf hY' ⊢
 clear hY hC
 have B3:=d3
 clear d2 d3 hJ
 gi_wp2_with fail
 gi_loopw [8,9] (fun i _ wr=>∃(k:Nat) (f:List Nat),k≤N∧i=.int .i64 (C k:Nat)∧C k≤65536∧J k f wr∧(∀x∈f,x<wr.heap.size∧x≠b3)∧Blk wr b3 [.int .i64 (l:Int)] 3∧W.heap.size≤wr.heap.size) (fun i _ _=>hi - (intOf i).toNat)
 case atStart=>exact ⟨0,fp,Nat.zero_le _,rfl,hC0,hJ1,fun x hx=>⟨(hfp x hx).1,(hfp x hx).2⟩,B3,Nat.le_refl _⟩
 case round =>
  clear hJ1 hfp B3 hc0
  obtain ⟨k,f,hk,rfl,hcb,hj,hf,B3,hsz⟩:=hrel
  have c3:=B3.cell
  have hHk':=(hHk k).out
  by_cases hlt:k<N
  ·obtain ⟨f1,f2,f3,f4,f5,f6,f7⟩:=(hHf k hlt).out
   obtain ⟨g1,g2⟩:=hHk'.1 hlt
   have hCm:C k≤C k*z:=Nat.le_mul_of_pos_right _ hz.1
   have hmul:(C k:Int)*(z:Int)=((C k*z:Nat):Int):=by push_cast;rfl
   have hs:=hHs k
   have hy:=hY' k f
   have hch:C k<hi:=by omega
   generalize hm:C k*z=m at *
   generalize C k=ck at *
   generalize F k=fk at *
   generalize T k=tk at *
   generalize A0 k=ak at *
   have hl0:(0:Int)<(l:Int):=by omega
   have hmh:(m:Int)<(hi:Int):=by omega
   by_cases hA:lo<m <;> by_cases hH:z<hi - m
   ·have e1:fk=0:=by omega
    have l1:(lo:Int) - (m:Int)<0:=by omega
    have a1:(m:Int) - (lo:Int)=(ak:Int):=by omega
    have e1':(fk:Int)=0:=by omega
    rw [e1'] at hy
    have e2:tk=z:=by omega
    have h1:¬(hi:Int) - (m:Int)≤(z:Int):=by omega
    subst e2
    have hFa:Fr [] wr (wr.alloc (.cells #[.int .i64 (ck:Int),.int .i64 0,.int .i64 (tk:Int),.int .i64 (ak:Int)] 201)):=(Fr.refl _ _).alloc _
    have hy2:=hy _ hlt (hst _ _ _ _ [] hj hFa (fun x h=>by cases h))
    have B3a:=B3.fr0 hFa
    have hsa:=hFa.size
    obtain ⟨fn',tmps',assign',body',hyy,hR⟩:=hy2
    have hHN:=hidIt hlt
    clear hY' hst hy f4 f5 f6 hHk' hHk hHf hHs hCm g2 f2 f3 f7 hlt
    gi_wp2_with fail
    refine ⟨rfl,hR.mono ?_⟩
    clear hR hyy
    rintro e w4 (⟨rfl,f',hj4,hf4,hg4⟩ | ⟨rfl,hjx⟩)
    ·have q4:=hf4.size
     have B34:=B3a.fr hf4 (fun h=>(hf _ h).2 rfl)
     have hg:∀y,y∈f'→y<w4.heap.size∧y≠b3:=fun y hy=>by
      refine ⟨(hg4 y hy).1,?_⟩
      rcases (hg4 y hy).2 with h | h
      ·exact (hf y h).2
      ·have:=B3a.lt;omega
     gi_wp2
     go_roundw
     case rel=>exact ⟨k+1,f',by have:=hHN.out;omega,by rw [hs.out];go_num,by rw [hs.out];omega,hj4,hg,B34,by omega⟩
     case measure=>simp [intOf];omega
    ·gi_wp2
     refine bodyPost_ret (results_none rfl _ _ _) rfl ?_
     exact ⟨⟨_,rfl⟩,.inr hjx⟩
   ·have e1:fk=0:=by omega
    have l1:(lo:Int) - (m:Int)<0:=by omega
    have a1:(m:Int) - (lo:Int)=(ak:Int):=by omega
    have e1':(fk:Int)=0:=by omega
    rw [e1'] at hy
    have h1:(hi:Int) - (m:Int)≤(z:Int):=by omega
    have h2:(hi:Int) - (m:Int)=(tk:Int):=by omega
    have h3:(tk:Int)≤(z:Int):=by omega
    have hFa:Fr [] wr (wr.alloc (.cells #[.int .i64 (ck:Int),.int .i64 0,.int .i64 (tk:Int),.int .i64 (ak:Int)] 201)):=(Fr.refl _ _).alloc _
    have hy2:=hy _ hlt (hst _ _ _ _ [] hj hFa (fun x h=>by cases h))
    have B3a:=B3.fr0 hFa
    have hsa:=hFa.size
    obtain ⟨fn',tmps',assign',body',hyy,hR⟩:=hy2
    have hHN:=hidIt hlt
    clear hY' hst hy f4 f5 f6 hHk' hHk hHf hHs hCm g2 f2 f3 f7 hlt
    gi_wp2_with fail
    refine ⟨rfl,hR.mono ?_⟩
    clear hR hyy
    rintro e w4 (⟨rfl,f',hj4,hf4,hg4⟩ | ⟨rfl,hjx⟩)
    ·have q4:=hf4.size
     have B34:=B3a.fr hf4 (fun h=>(hf _ h).2 rfl)
     have hg:∀y,y∈f'→y<w4.heap.size∧y≠b3:=fun y hy=>by
      refine ⟨(hg4 y hy).1,?_⟩
      rcases (hg4 y hy).2 with h | h
      ·exact (hf y h).2
      ·have:=B3a.lt;omega
     gi_wp2
     go_roundw
     case rel=>exact ⟨k+1,f',by have:=hHN.out;omega,by rw [hs.out];go_num,by rw [hs.out];omega,hj4,hg,B34,by omega⟩
     case measure=>simp [intOf];omega
    ·gi_wp2
     refine bodyPost_ret (results_none rfl _ _ _) rfl ?_
     exact ⟨⟨_,rfl⟩,.inr hjx⟩
   ·have l1:¬(lo:Int) - (m:Int)<0:=by omega
    have l2:(lo:Int) - (m:Int)=(fk:Int):=by omega
    have l3:¬(fk:Int)<0:=by omega
    have a1:(m:Int)+(fk:Int) - (lo:Int)=(ak:Int):=by omega
    have e2:tk=z:=by omega
    have h1:¬(hi:Int) - (m:Int)≤(z:Int):=by omega
    subst e2
    have hFa:Fr [] wr (wr.alloc (.cells #[.int .i64 (ck:Int),.int .i64 (fk:Int),.int .i64 (tk:Int),.int .i64 (ak:Int)] 201)):=(Fr.refl _ _).alloc _
    have hy2:=hy _ hlt (hst _ _ _ _ [] hj hFa (fun x h=>by cases h))
    have B3a:=B3.fr0 hFa
    have hsa:=hFa.size
    obtain ⟨fn',tmps',assign',body',hyy,hR⟩:=hy2
    have hHN:=hidIt hlt
    clear hY' hst hy f4 f5 f6 hHk' hHk hHf hHs hCm g2 f2 f3 f7 hlt
    gi_wp2_with fail
    refine ⟨rfl,hR.mono ?_⟩
    clear hR hyy
    rintro e w4 (⟨rfl,f',hj4,hf4,hg4⟩ | ⟨rfl,hjx⟩)
    ·have q4:=hf4.size
     have B34:=B3a.fr hf4 (fun h=>(hf _ h).2 rfl)
     have hg:∀y,y∈f'→y<w4.heap.size∧y≠b3:=fun y hy=>by
      refine ⟨(hg4 y hy).1,?_⟩
      rcases (hg4 y hy).2 with h | h
      ·exact (hf y h).2
      ·have:=B3a.lt;omega
     gi_wp2
     go_roundw
     case rel=>exact ⟨k+1,f',by have:=hHN.out;omega,by rw [hs.out];go_num,by rw [hs.out];omega,hj4,hg,B34,by omega⟩
     case measure=>simp [intOf];omega
    ·gi_wp2
     refine bodyPost_ret (results_none rfl _ _ _) rfl ?_
     exact ⟨⟨_,rfl⟩,.inr hjx⟩
   ·have l1:¬(lo:Int) - (m:Int)<0:=by omega
    have l2:(lo:Int) - (m:Int)=(fk:Int):=by omega
    have l3:¬(fk:Int)<0:=by omega
    have a1:(m:Int)+(fk:Int) - (lo:Int)=(ak:Int):=by omega
    have h1:(hi:Int) - (m:Int)≤(z:Int):=by omega
    have h2:(hi:Int) - (m:Int)=(tk:Int):=by omega
    have h3:(tk:Int)≤(z:Int):=by omega
    have hFa:Fr [] wr (wr.alloc (.cells #[.int .i64 (ck:Int),.int .i64 (fk:Int),.int .i64 (tk:Int),.int .i64 (ak:Int)] 201)):=(Fr.refl _ _).alloc _
    have hy2:=hy _ hlt (hst _ _ _ _ [] hj hFa (fun x h=>by cases h))
    have B3a:=B3.fr0 hFa
    have hsa:=hFa.size
    obtain ⟨fn',tmps',assign',body',hyy,hR⟩:=hy2
    have hHN:=hidIt hlt
    clear hY' hst hy f4 f5 f6 hHk' hHk hHf hHs hCm g2 f2 f3 f7 hlt
    gi_wp2_with fail
    refine ⟨rfl,hR.mono ?_⟩
    clear hR hyy
    rintro e w4 (⟨rfl,f',hj4,hf4,hg4⟩ | ⟨rfl,hjx⟩)
    ·have q4:=hf4.size
     have B34:=B3a.fr hf4 (fun h=>(hf _ h).2 rfl)
     have hg:∀y,y∈f'→y<w4.heap.size∧y≠b3:=fun y hy=>by
      refine ⟨(hg4 y hy).1,?_⟩
      rcases (hg4 y hy).2 with h | h
      ·exact (hf y h).2
      ·have:=B3a.lt;omega
     gi_wp2
     go_roundw
     case rel=>exact ⟨k+1,f',by have:=hHN.out;omega,by rw [hs.out];go_num,by rw [hs.out];omega,hj4,hg,B34,by omega⟩
     case measure=>simp [intOf];omega
    ·gi_wp2
     refine bodyPost_ret (results_none rfl _ _ _) rfl ?_
     exact ⟨⟨_,rfl⟩,.inr hjx⟩
  ·have hke:k=N:=by omega
   subst hke
   have hnot:¬(0<l∧C k*z<hi):=fun h=>hlt (hHk'.2 h)
   have hmul:(C k:Int)*(z:Int)=((C k*z:Nat):Int):=by push_cast;rfl
   have hkz:C k*z≤65536*128:=Nat.mul_le_mul hcb hz.2
   clear hHk' hHk
   generalize hm:C k*z=m at *
   have hl3:¬(0:Int)<(l:Int)∨(0:Int)<(l:Int)∧¬(m:Int)<(hi:Int):=by omega
   rcases hl3 with h | ⟨h0,h⟩
   ·gi_wp2
    go_end0
    exact ⟨⟨_,rfl⟩,.inl ⟨f,by rw [←hNq.out];exact hj⟩⟩
   ·gi_wp2
    go_end0
    exact ⟨⟨_,rfl⟩,.inl ⟨f,by rw [←hNq.out];exact hj⟩⟩
end
end Go.Proofs.YtffnihooekbcnaaGreat
namespace Go.Proofs.YtffnihooekbcnaaGreat
open Go.RowKit
def conX (M:Img) (x:Nat):UInt8:=(conC M (x / M.z)).getD (x % M.z) 0
def seg (M:Img) (lo n:Nat):By:=(List.range n).map fun i=>conX M (lo+i)
def readI (M:Img) (a l:Nat):By:=seg M (16*a) (16*l)
theorem seg_len (M:Img) (lo n:Nat):(seg M lo n).length=n:=by simp [seg]
theorem seg_app (M:Img) (lo n m:Nat):seg M lo n++seg M (lo+n) m=seg M lo (n+m):=by
 unfold seg
 rw [List.range_add,List.map_append,List.map_map]
 congr 1
 refine List.map_congr_left fun i _=>?_
 simp only [Function.comp,Nat.add_assoc]
theorem seg_getD (M:Img) (lo n i:Nat) (hi:i<n):(seg M lo n).getD i 0=conX M (lo+i):=by
 unfold seg
 rw [List.getD_eq_getElem?_getD,List.getElem?_map,List.getElem?_range hi]
 rfl
theorem z_pos (M:Img):0<M.z:=by unfold Img.z;have:=Nat.two_pow_pos M.B;omega
theorem conX_at {M:Img} {c r:Nat} (hr:r<M.z):conX M (c*M.z+r)=(conC M c).getD r 0:=by
 unfold conX
 have h1:(c*M.z+r) / M.z=c:=by
  rw [Nat.add_comm,Nat.add_mul_div_right _ _ (z_pos M),Nat.div_eq_of_lt hr,Nat.zero_add]
 have h2:(c*M.z+r) % M.z=r:=by
  rw [Nat.add_comm,Nat.add_mul_mod_self_right,Nat.mod_eq_of_lt hr]
 rw [h1,h2]
theorem con_seg {M:Img} (h:OkJ M) {c f t:Nat} (hft:f≤t) (ht:t≤M.z):((conC M c).drop f).take (t - f)=seg M (c*M.z+f) (t - f):=by
 have hl:=h.conc c
 refine List.ext_getElem (by simp [seg];omega) fun i h1 h2=>?_
 have hi:i<t - f:=by simpa [seg] using h2
 have e:(seg M (c*M.z+f) (t - f))[i]=(seg M (c*M.z+f) (t - f)).getD i 0:=by rw [List.getD_eq_getElem?_getD,List.getElem?_eq_getElem h2];rfl
 rw [List.getElem_take,List.getElem_drop,e,seg_getD _ _ _ _ hi,Nat.add_assoc,conX_at (by omega),List.getD_eq_getElem?_getD,List.getElem?_eq_getElem (by omega)]
 rfl
def pcE (z a l k:Nat):Nat:=min (pcC z a k*z) (16*(a+l)) - 16*a
section
variable {z a l k:Nat} (hz:0<z)
theorem pcE_zero:pcE z a l 0=0:=by
 unfold pcE pcC pcF
 have h3:16*a / z*z≤16*a:=Nat.div_mul_le_self _ _
 rw [Nat.add_zero]
 omega
include hz
theorem pcE_last:pcE z a l (pcN z a l)=16*l:=by
 unfold pcE
 have h:=pc_lt (a:=a) (l:=l) (k:=pcN z a l) hz
 by_cases hl:l=0
 ·subst hl;omega
 ·have:¬pcC z a (pcN z a l)*z<16*(a+l):=fun h'=>Nat.lt_irrefl _ (h.2 ⟨by omega,h'⟩)
  omega
theorem pcE_at (hk:k<pcN z a l):pcC z a k*z+pcFr z a k=16*a+pcE z a l k∧pcAt z a k=pcE z a l k∧pcC z a k*z+pcTo z a l k=16*a+pcE z a l (k+1)∧pcE z a l (k+1)=pcE z a l k+(pcTo z a l k - pcFr z a k)∧pcE z a l (k+1)≤16*l:=by
 have h1:=pc_facts hz hk
 have h2:=((pc_lt hz).1 hk).2
 have h7:pcC z a (k+1)*z=pcC z a k*z+z:=by unfold pcC;rw [←Nat.add_assoc,Nat.add_mul (pcF z a+k) 1,Nat.one_mul]
 have hfr:pcFr z a k=16*a - pcC z a k*z:=rfl
 have hto:pcTo z a l k=min (16*(a+l) - pcC z a k*z) z:=rfl
 have hat:pcAt z a k=pcC z a k*z+pcFr z a k - 16*a:=rfl
 unfold pcE
 rw [h7]
 generalize pcC z a k*z=m at *
 omega
theorem pc_in {B n:Nat} (hz2:z=16*2 ^ B) (hal:a+l≤n*2 ^ B) (hk:k<pcN z a l):pcC z a k<n:=by
 have h2:=((pc_lt hz).1 hk).2
 have h3:16*(a+l)≤n*z:=by
  rw [hz2,Nat.mul_left_comm]
  exact Nat.mul_le_mul_left 16 hal
 exact Nat.lt_of_mul_lt_mul_right (a:=z) (by omega)
end
theorem seg_succ {M:Img} (h:OkJ M) {a l k:Nat} (hk:k<pcN M.z a l):seg M (16*a) (pcE M.z a l k)++((conC M (pcC M.z a k)).drop (pcFr M.z a k)).take (pcTo M.z a l k - pcFr M.z a k)=seg M (16*a) (pcE M.z a l (k+1)):=by
 have h1:=pcE_at (z_pos M) hk
 have h2:=pc_facts (z_pos M) hk
 rw [con_seg h (by omega) h2.2.1,h1.1,seg_app,←h1.2.2.2.1]
def wrK (zero:Bool) (M:Img) (c f t:Nat) (b:By) (bel:Nat→By):Img :=
 if zero=true∧t - f=M.z then setI M c (2,0,false) else if zero=true∧(M.t.getD c zS).1=2 then M else putI M c f b (bel c)
def needK (zero:Bool) (M:Img) (c f t:Nat):Bool:=!(zero && (decide (t - f=M.z) || decide ((M.t.getD c zS).1=2))) && needB (M.t.getD c zS)
section
variable {zero:Bool} {M:Img} (h:OkI M) {c f t:Nat} {b:By} {x:Nat→By} (hc:c<M.t.length) (hb:f+b.length=t) (ht:t≤M.z) (hx:(x c).length=M.z) (hfree:needK zero M c f t=true→0<freeN M.n)
theorem need_free (hn:needK zero M c f t=true→0<freeN M.n) (h1:¬(zero=true∧t - f=M.z)) (h2:¬(zero=true∧(M.t.getD c zS).1=2)):needB (M.t.getD c zS)=true→0<freeN M.n:=fun h3=>hn (by
 unfold needK
 rw [h3,Bool.and_true]
 cases zero with
 | false=>rfl
 | true=>simp only [true_and] at h1 h2;rw [decide_eq_false h1,decide_eq_false h2];rfl)
include h hc hb ht hx hfree in
theorem wr_ok:OkI (wrK zero M c f t b x):=by
 unfold wrK
 split
 ·exact set_ok h hc (by simp [rightS]) (by simp)
 ·split
  ·exact h
  ·rename_i h1 h2
   exact put_ok h hc hx (by omega) (need_free hfree h1 h2)
theorem wr_keep:(wrK zero M c f t b x).B=M.B∧(wrK zero M c f t b x).s=M.s∧(wrK zero M c f t b x).n.length=M.n.length∧(wrK zero M c f t b x).t.length=M.t.length∧∀c',c'≠c→(wrK zero M c f t b x).t.getD c' zS=M.t.getD c' zS:=by
 have hg:∀(s:Slt) c',c'≠c→(M.t.set c s).getD c' zS=M.t.getD c' zS:=fun s c' hne=>by
  by_cases hc:c<M.t.length
  ·rw [getD_setS hc,if_neg hne]
  ·rw [List.set_eq_of_length_le (by omega)]
 unfold wrK
 split
 ·have:=set_len (M:=M) (c:=c) (s:=(2,0,false))
  exact ⟨this.2.1,this.2.2.1,this.2.2.2.1,this.1,fun c' hne=>by rw [this.2.2.2.2];exact hg _ c' hne⟩
 ·split
  ·exact ⟨rfl,rfl,rfl,rfl,fun _ _=>rfl⟩
  ·have:=put_keep (M:=M) (c:=c) (f:=f) (b:=b) (x:=x c)
   refine ⟨this.1,this.2.1,this.2.2.1,?_,fun c' hne=>?_⟩
   ·rw [this.2.2.2];split <;> simp
   ·rw [this.2.2.2];split
    ·exact hg _ c' hne
    ·rfl
include h hc hfree in
theorem wr_free:freeN M.n≤freeN (wrK zero M c f t b x).n+(if needK zero M c f t=true then 1 else 0):=by
 unfold wrK
 split
 ·have:=set_free h.toOkJ hc (s:=(2,0,false));omega
 ·split
  ·omega
  ·rename_i h1 h2
   have:=put_free h hc (f:=f) (b:=b) (x:=x c) (need_free hfree h1 h2)
   have e:needK zero M c f t=needB (M.t.getD c zS):=by
    unfold needK
    cases zero with
    | false=>simp
    | true=>simp only [true_and] at h1 h2;rw [decide_eq_false h1,decide_eq_false h2];simp
   rw [e]
   exact this
include h hc hx hfree in
theorem wr_snap {p:By × List Slt} (hp:p∈M.s) {y:Slt} (hy:y∈p.2):conS (wrK zero M c f t b x) y=conS M y:=by
 unfold wrK
 split
 ·exact set_snap h hc (by simp [rightS]) (by simp) hp hy
 ·split
  ·rfl
  ·rename_i h1 h2
   exact put_snap h hc hx (need_free hfree h1 h2) hp hy
theorem spl_getD {x:By} {f:Nat} {b:By} (hl:f+b.length≤x.length) (r:Nat):(spl x f b).getD r 0=if f≤r∧r<f+b.length then b.getD (r - f) 0 else x.getD r 0:=by
 unfold spl
 simp only [List.getD_eq_getElem?_getD,List.getElem?_append,List.getElem?_drop,List.length_append,List.length_take]
 by_cases h1:r<f
 ·rw [if_pos (by omega),if_pos (by omega),if_neg (by omega),List.getElem?_take,if_pos h1]
 ·by_cases h2:r<f+b.length
  ·rw [if_pos (by omega),if_neg (by omega),if_pos ⟨by omega,h2⟩]
   congr 2
   omega
  ·rw [if_neg (by omega),if_neg (by omega)]
   congr 2
   omega
end
def wrN (zero:Bool) (M:Img) (a l:Nat) (b:By) (x:Img→Nat→By):Nat→Img
 | 0=>M
 | k+1=>wrK zero (wrN zero M a l b x k) (pcC M.z a k) (pcFr M.z a k) (pcTo M.z a l k) ((b.drop (pcAt M.z a k)).take (pcTo M.z a l k - pcFr M.z a k)) (x (wrN zero M a l b x k))
def needN (zero:Bool) (M:Img) (a l k:Nat):Nat:=(List.range k).countP fun j=>needK zero M (pcC M.z a j) (pcFr M.z a j) (pcTo M.z a l j)
theorem needN_succ (zero:Bool) (M:Img) (a l k:Nat):needN zero M a l (k+1)=needN zero M a l k+(if needK zero M (pcC M.z a k) (pcFr M.z a k) (pcTo M.z a l k)=true then 1 else 0):=by
 unfold needN
 rw [List.range_succ,List.countP_append]
 simp [List.countP_cons]
theorem needN_mono (zero:Bool) (M:Img) (a l k j:Nat) (h:k≤j):needN zero M a l k≤needN zero M a l j:=by
 induction j with
 | zero=>rw [show k=0 by omega];exact Nat.le_refl _
 | succ j ih =>
   by_cases e:k=j+1
   ·rw [e];exact Nat.le_refl _
   ·rw [needN_succ]
    have:=ih (by omega)
    omega
structure WrI (zero:Bool) (M:Img) (a l:Nat) (k:Nat) (R:Img):Prop where
 ok:OkI R
 B:R.B=M.B
 s:R.s=M.s
 n:R.n.length=M.n.length
 t:R.t.length=M.t.length
 old:∀c,pcC M.z a k≤c→R.t.getD c zS=M.t.getD c zS
 free:freeN M.n≤freeN R.n+needN zero M a l k
 snap:∀p∈M.s,∀y∈p.2,conS R y=conS M y
section
variable {zero:Bool} {M:Img} {a l:Nat} {b:By} {x:Img→Nat→By}
theorem WrI.first (h:OkI M):WrI zero M a l 0 M:=⟨h,rfl,rfl,rfl,rfl,fun _ _=>rfl,Nat.le_add_right _ _,fun _ _ _ _=>rfl⟩
theorem pc_slice {k:Nat} (hb:b.length=16*l) (hk:k<pcN M.z a l):pcFr M.z a k+((b.drop (pcAt M.z a k)).take (pcTo M.z a l k - pcFr M.z a k)).length=pcTo M.z a l k:=by
 have h1:=pc_facts (z_pos M) hk
 rw [List.length_take,List.length_drop]
 omega
section
variable {k:Nat} {R:Img} (h:WrI zero M a l k R) (hal:a+l≤M.t.length*2 ^ M.B) (hb:b.length=16*l) (hxl:∀(R:Img) c,OkJ R→(x R c).length=R.z) (hneed:needN zero M a l (pcN M.z a l)≤freeN M.n) (hk:k<pcN M.z a l)
include h
theorem WrI.z:R.z=M.z:=by unfold Img.z;rw [h.B]
theorem WrI.need_eq:needK zero R (pcC M.z a k) (pcFr M.z a k) (pcTo M.z a l k)=needK zero M (pcC M.z a k) (pcFr M.z a k) (pcTo M.z a l k):=by
 unfold needK
 rw [h.old _ (Nat.le_refl _),h.z]
include hneed hk in
theorem WrI.room:needK zero R (pcC M.z a k) (pcFr M.z a k) (pcTo M.z a l k)=true→0<freeN R.n:=fun hn=>by
 rw [h.need_eq] at hn
 have h1:=needN_mono zero M a l (k+1) (pcN M.z a l) (by omega)
 rw [needN_succ,if_pos hn] at h1
 have:=h.free
 omega
include hal hk in
theorem WrI.inn:pcC M.z a k<R.t.length:=by rw [h.t];exact pc_in (z_pos M) rfl hal hk
include hal hb hxl hneed hk in
theorem WrI.succ:WrI zero M a l (k+1) (wrK zero R (pcC M.z a k) (pcFr M.z a k) (pcTo M.z a l k) ((b.drop (pcAt M.z a k)).take (pcTo M.z a l k - pcFr M.z a k)) (x R)):=by
 have h1:=pc_facts (z_pos M) hk
 have hs:=pc_slice hb hk
 have hc:=h.inn hal hk
 have hr:=h.room hneed hk
 have hK:=wr_keep (zero:=zero) (M:=R) (c:=pcC M.z a k) (f:=pcFr M.z a k) (t:=pcTo M.z a l k) (b:=(b.drop (pcAt M.z a k)).take (pcTo M.z a l k - pcFr M.z a k)) (x:=x R)
 have ht:pcTo M.z a l k≤R.z:=by rw [h.z];exact h1.2.1
 refine ⟨wr_ok h.ok hc hs ht (hxl R _ h.ok.toOkJ) hr,hK.1.trans h.B,hK.2.1.trans h.s,hK.2.2.1.trans h.n,hK.2.2.2.1.trans h.t,fun c hcc=>?_,?_,fun p hp y hy=>?_⟩
 ·have:pcC M.z a (k+1)=pcC M.z a k+1:=rfl
  rw [hK.2.2.2.2 c (by omega)]
  exact h.old c (by omega)
 ·have:=wr_free h.ok hc (b:=(b.drop (pcAt M.z a k)).take (pcTo M.z a l k - pcFr M.z a k)) (x:=x R) hr
  rw [h.need_eq] at this
  rw [needN_succ]
  have:=h.free
  omega
 ·rw [wr_snap h.ok hc (hxl R _ h.ok.toOkJ) hr (by rw [h.s];exact hp) hy]
  exact h.snap p hp y hy
end
section
variable (h:OkI M) (hal:a+l≤M.t.length*2 ^ M.B) (hb:b.length=16*l) (hxl:∀(R:Img) c,OkJ R→(x R c).length=R.z) (hneed:needN zero M a l (pcN M.z a l)≤freeN M.n)
include h hal hb hxl hneed
theorem wrN_inv:∀k,k≤pcN M.z a l→WrI zero M a l k (wrN zero M a l b x k)
 | 0,_=>WrI.first h
 | k+1,hk=>(wrN_inv k (by omega)).succ hal hb hxl hneed (by omega)
end
end
def writeI (zero:Bool) (M:Img) (a l:Nat) (b:By) (x:Img→Nat→By):Img:=wrN zero M a l b x (pcN M.z a l)
def disN (M:Img) (a l:Nat):Nat→Img
 | 0=>M
 | k+1=>if pcTo M.z a l k - pcFr M.z a k=M.z then setI (disN M a l k) (pcC M.z a k) zS else disN M a l k
def discardI (M:Img) (a l:Nat):Img:=disN M a l (pcN M.z a l)
structure DisI (M:Img) (a l:Nat) (k:Nat) (R:Img):Prop where
 ok:OkI R
 B:R.B=M.B
 s:R.s=M.s
 n:R.n.length=M.n.length
 t:R.t.length=M.t.length
 snap:∀p∈M.s,∀y∈p.2,conS R y=conS M y
section
variable {M:Img} {a l:Nat}
theorem dis_inv (h:OkI M) (hal:a+l≤M.t.length*2 ^ M.B):∀k,k≤pcN M.z a l→DisI M a l k (disN M a l k)
 | 0,_=>⟨h,rfl,rfl,rfl,rfl,fun _ _ _ _=>rfl⟩
 | k+1,hk=>by
   have ih:=dis_inv h hal k (by omega)
   unfold disN
   split
   ·have hc:pcC M.z a k<(disN M a l k).t.length:=by rw [ih.t];exact pc_in (z_pos M) rfl hal (by omega)
    have hk:=set_len (M:=disN M a l k) (c:=pcC M.z a k) (s:=zS)
    exact ⟨set_ok ih.ok hc (by simp [rightS,zS]) (by simp [zS]),hk.2.1.trans ih.B,hk.2.2.1.trans ih.s,hk.2.2.2.1.trans ih.n,hk.1.trans ih.t,fun p hp y hy=>(set_snap ih.ok hc (by simp [rightS,zS]) (by simp [zS]) (by rw [ih.s];exact hp) hy).trans (ih.snap p hp y hy)⟩
   ·exact ⟨ih.ok,ih.B,ih.s,ih.n,ih.t,ih.snap⟩
theorem dis_all (h:OkI M):∀k,k≤pcN M.z 0 (M.t.length*2 ^ M.B)→∀c,c<k→(disN M 0 (M.t.length*2 ^ M.B) k).t.getD c zS=zS
 | 0,_,c,hc=>by omega
 | k+1,hk,c,hc=>by
   have ih:=dis_all h k (by omega) c
   have hI:=dis_inv h (a:=0) (l:=M.t.length*2 ^ M.B) (by omega) k (by omega)
   have h1:=pc_facts (z_pos M) (a:=0) (l:=M.t.length*2 ^ M.B) (k:=k) (by omega)
   have hC:pcC M.z 0 k=k:=by simp [pcC,pcF]
   have hin:=pc_in (z_pos M) (a:=0) (l:=M.t.length*2 ^ M.B) (n:=M.t.length) (B:=M.B) (k:=k) rfl (by omega) (by omega)
   rw [hC] at hin h1
   have hz:M.t.length*2 ^ M.B*16=M.t.length*M.z:=by unfold Img.z;rw [Nat.mul_assoc,Nat.mul_comm (2 ^ M.B)]
   have h2:(k+1)*M.z≤M.t.length*M.z:=Nat.mul_le_mul_right _ hin
   rw [Nat.add_mul] at h2
   have hto:pcTo M.z 0 (M.t.length*2 ^ M.B) k=M.z:=by
    unfold pcTo
    rw [hC]
    omega
   have hfr:pcFr M.z 0 k=0:=by unfold pcFr;omega
   have e:disN M 0 (M.t.length*2 ^ M.B) (k+1)=setI (disN M 0 (M.t.length*2 ^ M.B) k) k zS:=by
    show (if _ then _ else _)=_
    rw [if_pos (by rw [hto,hfr];rfl),hC]
   rw [e,set_len.2.2.2.2,getD_setS (by rw [hI.t];exact hin)]
   split
   ·rfl
   ·exact ih (by omega)
end
def slAddr (a:Option Addr) (cap l k:Nat):Option Addr:=if cap=l then a else a.map (·.add (l*k))
theorem flatk_drop {α:Type} (f:α→List Value) (k:Nat) (hf:∀x,(f x).length=k):∀(l:List α) (i:Nat),(l.flatMap f).drop (i*k)=(l.drop i).flatMap f
 | [],i=>by simp
 | x :: l,0=>by simp
 | x :: l,i+1=>by
   rw [List.flatMap_cons,List.drop_succ_cons,←flatk_drop f k hf l i]
   have:(i+1)*k=(f x).length+i*k:=by rw [hf,Nat.add_one_mul];omega
   rw [this,List.drop_length_add_append]
theorem flatk_take {α:Type} (f:α→List Value) (k:Nat) (hf:∀x,(f x).length=k):∀(l:List α) (i:Nat),(l.flatMap f).take (i*k)=(l.take i).flatMap f
 | [],i=>by simp
 | x :: l,0=>by simp
 | x :: l,i+1=>by
   rw [List.flatMap_cons,List.take_succ_cons,List.flatMap_cons,←flatk_take f k hf l i]
   have:(i+1)*k=(f x).length+i*k:=by rw [hf,Nat.add_one_mul];omega
   rw [this,List.take_length_add_append]
theorem SlF.from {α:Type} {f:α→List Value} {w:World} {a:Option Addr} {n cap:Nat} {l:List α} (k:Nat) (hf:∀x,(f x).length=k) (h:SlF f w (.slice a n cap) l) {m:Nat} (hm:m≤n) :
 SlF f w (.slice (slAddr a cap m k) (n - m) (cap - m)) (l.drop m):=by
 obtain ⟨a',cap',hv,h1,h2,hc⟩:=h
 cases hv
 refine ⟨_,cap - m,by rw [List.length_drop],by rw [List.length_drop];omega,by omega,?_⟩
 rw [←flatk_drop f k hf]
 rcases hc with he | ⟨b,off,rfl,hb,hc⟩
 ·exact .inl (by rw [he];simp)
 ·by_cases hcm:cap=m
  ·refine .inl ?_
   rw [flatk_drop f k hf,List.drop_eq_nil_of_le (by omega)]
   rfl
  ·refine .inr ⟨b,off+m*k,?_,hb,fun j u hu=>?_⟩
   ·simp [slAddr,hcm,Addr.add]
   ·rw [List.getElem?_drop] at hu
    rw [Nat.add_assoc]
    exact hc _ u hu
theorem SlF.to {α:Type} {f:α→List Value} {w:World} {a:Option Addr} {n cap:Nat} {l:List α} (k:Nat) (hf:∀x,(f x).length=k) (h:SlF f w (.slice a n cap) l) {m:Nat} (hm:m≤n) :
 SlF f w (.slice a m cap) (l.take m):=by
 obtain ⟨a',cap',hv,h1,h2,hc⟩:=h
 cases hv
 refine ⟨_,cap,by rw [List.length_take,Nat.min_eq_left hm],by rw [List.length_take];omega,by omega,?_⟩
 rw [←flatk_take f k hf]
 rcases hc with he | ⟨b,off,rfl,hb,hc⟩
 ·exact .inl (by rw [he];simp)
 ·refine .inr ⟨b,off,rfl,hb,fun j u hu=>?_⟩
  rw [List.getElem?_take] at hu
  split at hu
  ·exact hc _ u hu
  ·cases hu
section
variable {P:Program} {w:World} (t e:TypeId) (k:Nat) (ht:P.underlying t=some (.slice e)) (hk:(sizeOf e).run P w=.ok k w)
include ht hk
theorem cut_from (a:Option Addr) (n cap l:Nat) (h:l≤n) :
 (Instr.sliceAt t (.slice a n cap) (some (.int .i64 (l:Int))) none none).run P w=.ok (.slice (slAddr a cap l k) (n - l) (cap - l)) w:=by
 have he:P.elem t=e:=by simp [Program.elem,ht]
 have ht':P.underlying t=some (.slice (P.elem t)):=by rw [he,ht]
 rw [run_sliceAt_slice (h:=ht'),run_slice_l (ht:=ht') (h0:=by omega) (h1:=by omega),he,hk]
 simp [sliced,slAddr]
theorem cut_to (a:Option Addr) (n cap h:Nat) (h2:h≤cap) :
 (Instr.sliceAt t (.slice a n cap) none (some (.int .i64 (h:Int))) none).run P w=.ok (.slice a h cap) w:=by
 have he:P.elem t=e:=by simp [Program.elem,ht]
 have ht':P.underlying t=some (.slice (P.elem t)):=by rw [he,ht]
 rw [run_sliceAt_slice (h:=ht'),run_slice_h (ht:=ht') (h0:=by omega) (h2:=by omega),he,hk]
 cases a <;> simp [sliced,Addr.add_zero']
end
theorem SlF.mid {α:Type} {f:α→List Value} {w:World} {a:Option Addr} {n cap:Nat} {l:List α} (k:Nat) (hf:∀x,(f x).length=k) (h:SlF f w (.slice a n cap) l) {m j:Nat} (hj:j≤n) (hm:m≤j) :
 SlF f w (.slice (slAddr a cap m k) (j - m) (cap - m)) ((l.take j).drop m):=(h.to k hf hj).from k hf hm
end Go.Proofs.YtffnihooekbcnaaGreat
namespace Go.Proofs.YtffnihooekbcnaaGreat
open Go
section
variable {P:Program} {ops:Array Oper} {Q:Exit→Act→World→Prop} {S:World→Prop}
def wpB2 (P:Program) (ops:Array Oper) (S:World→Prop) (Q:Exit→Act→World→Prop) (l1 l2:List (Bool × Oper)):List Oper→Act→World→Prop
 | [],a,w=>wpG P ops S Q l1 a w∧wpG P ops S Q l2 a w
 | o :: rest,a,w=>∃v,YieldsIf P ops S o v a∧wpB2 P ops S Q l1 l2 rest (a.put o.dst v) w
def fB2 (md:Region.Mode) (ops:Array Oper) (k1 k2:Nat) (r1 r2:List (Bool × Nat)):List Nat→Array Bool→Bool
 | [],listed=>decide (Region.ready md ops listed=[k1,k2]) && fB md ops r1 (listed.setIfInBounds k1 true) && fB md ops r2 (listed.setIfInBounds k2 true)
 | k :: rest,listed=>Region.free md ops listed k && (Region.ready md ops listed).contains k && fB2 md ops k1 k2 r1 r2 rest (listed.setIfInBounds k true)
theorem wpAnyH_B2 {md:Region.Mode} (hs:Region.noSelect ops=true) (hQ:∀c a a' w,Q (.panic c) a w→Q (.panic c) a' w) (d:Oper) (k1 k2:Nat) (r1 r2:List (Bool × Nat)) (hr:r1.length=r2.length) (hk1:k1<ops.size) (hk2:k2<ops.size) (hr1:∀p∈r1,p.2<ops.size) (hr2:∀p∈r2,p.2<ops.size):∀(l:List Nat) (listed:Array Bool) (a:Act) (w:World),(∀p∈l,p<ops.size) →
 fB2 md ops k1 k2 r1 r2 l listed=true→S w→wpB2 P ops S Q (inOrder ops.toList d ((false,k1) :: r1)) (inOrder ops.toList d ((false,k2) :: r2)) (l.map fun k=>ops.toList.getD k d) a w→wpAnyH P md ops Q S (l.length+1+r1.length) listed a w
 | [],listed,a,w,_,hB,hS,h=>by
   simp only [fB2,Bool.and_eq_true,decide_eq_true_eq] at hB
   obtain ⟨h1,h2⟩:=h
   have key:∀(k:Nat) (r:List (Bool × Nat)) (hk:k<ops.size) (hr:∀p∈r,p.2<ops.size),fB md ops r (listed.setIfInBounds k true)=true→wpG P ops S Q (inOrder ops.toList d ((false,k) :: r)) a w→wpOp P ops Q k (fun a' w'=>S w'∧wpAnyH P md ops Q S r.length (listed.setIfInBounds k true) a' w') a w:=by
    intro k r hk hr hf h
    have h0:ops[k]? = some (ops.toList.getD k d):=by simp [hk]
    refine wpOp_step h0 fun K' hK=>?_
    replace h:wpG P ops S Q ((false,ops.toList.getD k d) :: inOrder ops.toList d r) a w:=h
    unfold wpG at h
    split at h
    ·rename_i hw
     rw [if_pos hw]
     exact Oper.wp_mono (fun a w h=>let ⟨S',g1,g2,g3⟩:=h;hK _ _ ⟨g1 _ g2,anyH_S g1 _ _ _ _ (wpAnyH_G hs hQ d r S' _ a w hr hf g2 g3)⟩) h
    ·rename_i hw
     rw [if_neg hw]
     exact hK _ _ ⟨hS,wpAnyH_G hs hQ d r S _ _ w hr hf hS h⟩
   have hlen:([]:List Nat).length+1+r1.length=r1.length+1:=by simp;omega
   rw [hlen]
   refine wpAnyH_all hB.1.1 (by simp) fun i hi=>?_
   rcases List.mem_cons.1 hi with rfl | hi
   ·exact key _ r1 hk1 hr1 hB.1.2 h1
   ·obtain rfl:i=k2:=by simpa using hi
    rw [hr]
    exact key _ r2 hk2 hr2 hB.2 h2
 | k :: l,listed,a,w,hl,hB,hS,h=>by
   have hk:k<ops.size:=hl _ List.mem_cons_self
   have h0:ops[k]? = some (ops.toList.getD k d):=by simp [hk]
   simp only [fB2,Bool.and_eq_true] at hB
   obtain ⟨v,hy,h⟩:=h
   have hlen:(k :: l).length+1+r1.length=(l.length+1+r1.length)+1:=by simp;omega
   rw [hlen]
   exact wpAnyH_take h0 hs hB.1.1 hB.1.2 (fun c a w=>hQ c _ _ w) hy hS (wpAnyH_B2 hs hQ d k1 k2 r1 r2 hr hk1 hk2 hr1 hr2 l _ _ w (fun p hp=>hl p (List.mem_cons_of_mem _ hp)) hB.2 hS h)
def b2B (ops:Array Oper) (l:List Nat) (k1 k2:Nat) (r1 r2:List (Bool × Nat)):Bool :=
 plainOps ops && (Region.noSelect ops && decide (r1.length=r2.length) && decide (l.length+1+r1.length=ops.size) && decide (k1<ops.size) && decide (k2<ops.size) && l.all (fun p=>decide (p<ops.size)) && r1.all (fun p=>decide (p.2<ops.size)) && r2.all (fun p=>decide (p.2<ops.size)) && fB2 .any ops k1 k2 r1 r2 l (Array.replicate ops.size false))
theorem wp_region_B2 {id:Nat} {a:Act} {w:World} {o:Oper} {l:List Oper} (S:World→Prop) (p:List Nat) (k1 k2:Nat) (r1 r2:List (Bool × Nat)) (hm:P.follows .mixedOrders=true) (hB:b2B (o :: l).toArray p k1 k2 r1 r2=true) (hS:S w.drew)
 (h:wpB2 P (o :: l).toArray S (noEnd Q) (inOrder (o :: l) o ((false,k1) :: r1)) (inOrder (o :: l) o ((false,k2) :: r2)) (p.map fun k=>(o :: l).getD k o) a w.drew):(Code.region id (o :: l).toArray true).wp P Q a w:=by
 refine Code.wp_mono noEnd_imp (wp_region_any hm ?_)
 simp only [b2B,Bool.and_eq_true,decide_eq_true_eq,List.all_eq_true] at hB
 obtain ⟨_,⟨⟨⟨⟨⟨⟨⟨hs,hr⟩,ht⟩,hk1⟩,hk2⟩,hp⟩,h1⟩,h2⟩,hB⟩:=hB
 have:=wpAnyH_B2 (P:=P) (Q:=noEnd Q) (md:=.any) hs (fun _ _ _ _ h=>h) o k1 k2 r1 r2 hr hk1 hk2 (fun p hp=>h1 p hp) (fun p hp=>h2 p hp) p (Array.replicate (o :: l).toArray.size false) a w.drew (fun q hq=>hp q hq) hB hS h
 rw [ht] at this
 exact wpAny_of_held _ _ _ _ this
variable {a:Act} {w:World} {rest:List Oper} {o:Oper} {l1 l2:List (Bool × Oper)}
theorem wpB2_end (h1:wpG P ops S Q l1 a w) (h2:wpG P ops S Q l2 a w):wpB2 P ops S Q l1 l2 [] a w:=⟨h1,h2⟩
theorem wpB2_pure (h:∀K:Act→Prop,(∀a,wpB2 P ops S Q l1 l2 rest a w→K a)→if Region.wanted o (yielded ops a.tmps) then ∃v,(∀w,(execOp a.eval o).run P w=.ok (.value v) w)∧K (a.put o.dst v) else K (a.put o.dst undef)) :
 wpB2 P ops S Q l1 l2 (o :: rest) a w:=by
 have:=h (fun a=>wpB2 P ops S Q l1 l2 rest a w) (fun _ h=>h)
 by_cases hw:Region.wanted o (yielded ops a.tmps)=true
 ·rw [if_pos hw] at this
  obtain ⟨v,h1,h2⟩:=this
  exact ⟨v,.inl ⟨hw,fun w _=>h1 w⟩,h2⟩
 ·rw [if_neg hw] at this
  exact ⟨undef,.inr ⟨by simpa using hw,rfl⟩,this⟩
theorem wpB2_val (v:Value) (hw:Region.wanted o (yielded ops a.tmps)=true) (hr:∀W,S W→(execOp a.eval o).run P W=.ok (.value v) W) (h:wpB2 P ops S Q l1 l2 rest (a.put o.dst v) w):wpB2 P ops S Q l1 l2 (o :: rest) a w :=
 ⟨v,.inl ⟨hw,hr⟩,h⟩
end
end Go.Proofs.YtffnihooekbcnaaGreat
