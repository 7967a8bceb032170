/-
  Package push: Result.
-/
import Derived.Test.YtffnihooekbcnaaGreatG19
import Derived.Test.YtffnihooekbcnaaGreatLsB
import Derived.Laws.BitsAllLaws
import Derived.Lib.AppendStr
set_option maxRecDepth 100000
set_option maxHeartbeats 6400000
namespace Go.Proofs.YtffnihooekbcnaaGreat
open Go.RowKit Go.Maps
attribute [local go_sem] mapAt_alloc mapAt_setCell mapAt_drew mapAt_drewN cells_str store_str eql_str neq_str guard_str len_str
def gotN (n:Nat) (G:Nat→Option By):List Nat:=(List.range n).filter fun k=>(G k).isSome
def gotL (n:Nat) (G:Nat→Option By):List (Nat × By):=(gotN n G).map fun k=>(k,(G k).getD [])
theorem gotN_mem {n:Nat} {G:Nat→Option By} {k:Nat}:k∈gotN n G ↔ k<n∧(G k).isSome=true:=by
 unfold gotN
 rw [List.mem_filter,List.mem_range]
theorem gotN_sorted (n:Nat) (G:Nat→Option By):((gotN n G).map fun (k:Nat)=>(k:Int)).Pairwise (·<·):=by
 rw [List.pairwise_map]
 exact (List.Pairwise.filter _ List.pairwise_lt_range).imp fun {a b} h=>by omega
theorem gotN_len (n:Nat) (G:Nat→Option By):(gotN n G).length≤n:=Nat.le_trans (List.length_filter_le _ _) (by simp)
section
variable {w w':World} {jb lm gm cb mb n room:Nat} {s:By} {p:List By} {o:Nat→Prop} {l:List Bool} {G:Got} {L:List Cd} {over done:Bool}
theorem gotSorted_calls (h:GotW w gm n o G) (hn:n≤256) (bm:Nat) (hB:Blk w bm [.map (some gm)] 157):Calls Tryz.prog 133 #[.func (.func 186) #[] #[.pointer (some ⟨bm,0,none⟩)]] w fun e w'=>∃v,e=.returned v∧SlI w' v ((gotN n (unG G)).map fun (k:Nat)=>(k:Int))∧Fr [] w w'∧∀k,v.ownBlock=some k→w.heap.size≤k:=by
 have hsup:=h.sup
 obtain ⟨es,c,hm,hi⟩:=h.map
 have hmem:∀k:Int,k∈(gotN n (unG G)).map (fun (k:Nat)=>(k:Int)) ↔ (gotM G (.int .i64 k)).isSome=true:=by
  intro k
  rw [List.mem_map]
  constructor
  ·rintro ⟨j,hj,rfl⟩
   rw [gotM_int]
   have:=(gotN_mem.1 hj).2
   unfold unG at this
   cases e:G j with
   | none=>rw [e] at this;cases this
   | some y=>rfl
  ·intro hx
   unfold gotM at hx
   simp only at hx
   by_cases hj:0≤k
   ·rw [if_pos hj] at hx
    cases e:G k.toNat with
    | none=>rw [e] at hx;exact absurd hx (by simp)
    | some y=>exact ⟨k.toNat,gotN_mem.2 ⟨hsup _ y e,by unfold unG;rw [e];rfl⟩,Int.toNat_of_nonneg hj⟩
   ·rw [if_neg hj] at hx;exact absurd hx (by simp)
 refine sortedG_calls bm gm 4096 w (hB.cell 0) hB.lt hm hi ?_ (by decide) _ (gotN_sorted _ _) hmem
 rw [hi.size (ks:=(gotN n (unG G)).map fun (k:Nat)=>Value.int .i64 (k:Int)) ?_ ?_,List.length_map]
 ·have:=gotN_len n (unG G);omega
 ·rw [List.pairwise_map]
  exact (List.nodup_range.filter _).imp fun {a b} h e=>h (by injection e with _ e;omega)
 ·intro x
  rw [List.mem_map]
  constructor
  ·rintro ⟨k,hk,rfl⟩
   exact (hmem _).1 (List.mem_map.2 ⟨k,hk,rfl⟩)
  ·intro hx
   cases x with
   | int q k =>
     cases q with
     | i64 =>
       obtain ⟨j,hj,hjk⟩:=List.mem_map.1 ((hmem k).2 hx)
       exact ⟨j,hj,by rw [←hjk]⟩
     | _=>cases hx
   | _=>cases hx
theorem GotW.look (h:GotW w gm n o G) {k:Nat} {x:By × Value} (hx:G k=some x) (hn:n≤256) :
 (Instr.lookup 157 (.map (some gm)) (.int .i64 (k:Int)) false).run Tryz.prog w=.ok x.2 w:=by
 obtain ⟨es,c,hm,hi⟩:=h.map
 have:=h.sup k x hx
 rw [run_lookup_isM (z:=.slice none 0 0) Tryz.underlying157 bKeyInt hi false (bKeyI (by omega) (by omega)) w (by kernel_rfl) hm,gotM_int,hx]
 rfl
def phResPost (w:World) (n:Nat) (G:Nat→Option By) (e:Ending) (w':World):Prop :=
 ∃v xs,e=.returned (.tuple #[v,.int .i64 (n:Int),.bool true])∧PcsW w' (fun q=>w.heap.size≤q∧q<w'.heap.size) v xs∧unP xs=gotL n G∧Fr [] w w'
theorem phResult_calls (hJ:PshW w jb lm gm cb n s o l G true true) (hn2:n≤256) (hb:∀k x,G k=some x→x.1.length=32) :
 Calls Tryz.prog 98 #[.pointer (some ⟨jb,0,none⟩)] w (phResPost w n (unG G)):=by
 have hj:=fun X (hX:Fr [] w X)=>(hJ.fr0 hX).blk.cell
 unfold pushC at hj
 obtain ⟨S,hS⟩:∃S,Hid (strL s=Value.string S):=⟨_,hidIt rfl⟩
 simp only [hS.out] at hj
 have j0:=hj w (Fr.refl _ _)
 go_enter Tryz.func98,Tryz.ntmps98
 go_wp2_with fail
 refine (keysG_calls gm w).mono ?_
 rintro e w1 ⟨rfl,hw1⟩
 have hF1:Fr [] w w1:=by rw [hw1];exact (Fr.refl _ w).alloc _
 have hBm:Blk w1 w.heap.size [.map (some gm)] 157:=by rw [hw1];exact Blk.new' rfl [_] _
 have kS:=gotSorted_calls (hJ.got.fr0 hF1) hn2 _ hBm
 have hz1:=hF1.size
 clear hw1 hBm
 go_wp2_with fail
 refine kS.mono ?_
 rintro e w2 ⟨v,rfl,hsl,hf2,hvn⟩
 clear kS
 have hF2:=hF1.trans0 hf2
 obtain ⟨va,vc,rfl,hvl,hvc,_⟩:=SlF.open hsl
 have hkl:=gotN_len n (unG G)
 have hmx:Hid (∀k∈gotN n (unG G),∃x v,G k=some (x,v)∧(unG G k).getD []=x):=hidIt (by
  intro k hk
  have:=(gotN_mem.1 hk).2
  unfold unG at this ⊢
  cases e:G k with
  | none=>rw [e] at this;cases this
  | some y=>exact ⟨y.1,y.2,rfl,rfl⟩)
 have hgl:Hid (gotL n (unG G)=(gotN n (unG G)).map fun k=>(k,(unG G k).getD [])):=hidIt rfl
 rw [List.length_map] at hvl hsl hvn ⊢
 have hz2:=hF2.size
 obtain ⟨H,hH⟩:∃H,Hid (w2.heap.size=H):=⟨_,hidIt rfl⟩
 generalize gotN n (unG G)=ks at *
 clear j0
 go_wp2_with fail
 go_loopw [5,7,20] (fun u _ i wr=>∃(k:Nat) (xs:List Pcv),k≤ks.length∧i=.int .i64 (k:Int)∧MadP wr H u xs∧Hid (unP xs=(ks.take k).map fun k=>(k,(unG G k).getD []))∧Fr [] w2 wr∧H≤wr.heap.size) (fun _ _ i _=>ks.length - (intOf i).toNat)
 case atStart=>exact ⟨0,[],Nat.zero_le _,rfl,MadP.nil _ _,hidIt rfl,Fr.refl _ _,by have:=hH.out;omega⟩
 obtain ⟨k,xs,hk,rfl,hM,hxs,hF,hHr⟩:=hrel
 have hxl:xs.length=k:=by
  have:=congrArg List.length hxs.out
  rw [unP_len,List.length_map,List.length_take] at this
  omega
 have hFr:=hF2.trans0 hF
 by_cases hlt:k<ks.length
 case neg =>
  have hlt':¬(k:Int)<(ks.length:Int):=by omega
  have hfin:=hidIt (show unP xs=gotL n (unG G) from by rw [hgl.out,hxs.out,List.take_of_length_le (by omega)])
  clear hxl
  obtain ⟨ua,uc,rfl,_⟩:=Sl.of_owns hM.row
  have jr:=hj _ hFr.drew
  clear hj
  go_wp2_with fail
  refine wp_region_G (fun X=>X=wr.drew) [(true,0),(true,1),(true,2),(true,3),(true,4),(true,5),(true,6),(true,7)] (by as_aux_lemma=>kernel_rfl) (by as_aux_lemma=>kernel_rfl) (rfl) ?_
  simp only [inOrder,jD,jE,jF,jG]
  iterate 4 (refine wpG_pure fun K hK=>?_;go_simp;refine hK _ ?_;clear hK K)
  refine wpG_val (.int .i64 (n:Int)) (by first | rfl | go_simp) (fun X hX=>by subst hX;go_simp) ?_
  simp only [Act.put,jA,jB,jC]
  iterate 3 (refine wpG_pure fun K hK=>?_;go_simp;refine hK _ ?_;clear hK K)
  refine wpG_end ?_
  clear jr
  go_wp2
  refine bodyPost_ret (v:=.tuple #[.slice ua xs.length uc,.int .i64 (n:Int),.bool true]) (by simp [results]) rfl ?_
  have hzr:=hFr.size
  exact ⟨_,xs,rfl,(hM.fr0 ((Fr.refl [] wr).drew)).pcs (fun q h1 h2=>⟨by have:=hH.out;omega,h2⟩),hfin.out,hFr.drew⟩
 have hlt':(k:Int)<(ks.length:Int):=by omega
 obtain ⟨b,off,rfl,hbb,d0⟩:=intAt (SlF.fr0 hsl hF) (i:=k) (by simpa using hlt)
 have hkk:ks[k]? = some (ks.getD k 0):=getD_some 0 hlt
 have htk:Hid (ks.take (k+1)=ks.take k++[ks.getD k 0]):=hidIt (by rw [List.take_add_one,hkk];rfl)
 obtain ⟨x,xv,hGx,hUx⟩:=hmx.out _ (List.mem_of_getElem? hkk)
 rw [show ((ks.map fun (k:Nat)=>(k:Int)).getD k 0)=((ks.getD k 0:Nat):Int) from by rw [List.getD_eq_getElem?_getD,List.getElem?_map,hkk];rfl] at d0
 generalize ks.getD k 0=C at *
 have jr:=hj _ hFr
 have hGr:=hJ.got.fr0 hFr
 have hlk:=hGr.look hGx hn2
 have kC:=CloneY_calls _ _ _ (hGr.byt _ _ hGx).1 (by rw [hb _ _ hGx];decide)
 clear hj hGr hkk
 go_wp2_with fail
 refine kC.mono ?_
 rintro e w4 ⟨cv,rfl,hvc,hf4⟩
 clear kC hlk jr
 obtain ⟨ca,cc,rfl,_⟩:=Sl.of_owns hvc
 have hM4:=hM.fr0 hf4
 have hz4:=hf4.size
 go_wp2_with (at_builtin;refine Hid.out ?_)
 refine hidIt ?_
 refine wpList_append1 58 71 _ 2 32 Tryz.underlying58 infoPc rfl (by decide) (by decide) rfl _ _ rfl H u5 xs.length _ rfl (hM4.row.alloc _) [.int .i64 (C:Int),.slice ca x.length cc] rfl (by intro y hy;simp at hy;rcases hy with rfl | rfl <;> rfl) w4.heap.size rfl (Blk.new' rfl [_,_] _) (by omega) (by simp;omega) ?_
 intro v' w7 hown7 hgrow7 hloc7
 have hF7:Fr u5.ownBlock.toList w4 w7:=((Fr.refl [] w4).alloc _).weak.trans' (Fr.of_grown hgrow7)
 have hvb:=own_base hvc
 have hvl2:=hvc.lt
 have hul:=hM4.row.lt
 have hl7:∀q,v'.ownBlock=some q→u5.ownBlock=some q∨w4.heap.size≤q:=fun q hq=>by
  rcases hloc7 with h | h
  ·left;rw [←h,hq]
  ·right;rw [h] at hq;injection hq with hq;simp at hq;omega
 have hwrl:=hM.row.lt
 have hM7:=hM4.more (x:=(C,x,.slice ca x.length cc)) hown7 hF7 hl7 (SlF.fr (SlF.of_owns hvc) hF7 fun q hq hm=>by
  have h1:=hvb q hq
  have h2:=(hwrl q (by simpa using hm)).2
  omega) (okV.of_owns hvc) (fun q hq=>by
  have h1:=hvb q hq
  have h2:=(hvl2 q hq).2
  have h3:=hF7.size
  refine ⟨by omega,by omega,fun e=>?_⟩
  rcases hl7 q e with h9 | h9
  ·have:=(hwrl q h9).2;omega
  ·omega)
 have hFw7:Fr [] w2 w7:=(hF.trans0 hf4).trans hF7 (fun q hq hl=>by
  have:=own_base hM.row q (by simpa using hq)
  have:=hH.out
  omega)
 have hH7:H≤w7.heap.size:=by have:=hF7.size;omega
 have hxs7:Hid (unP (xs++[(C,x,.slice ca x.length cc)])=(ks.take (k+1)).map fun k=>(k,(unG G k).getD [])):=hidIt (by
  rw [htk.out,List.map_append,←hxs.out]
  unfold unP
  rw [List.map_append]
  show _=_++[(C,(unG G C).getD [])]
  rw [hUx]
  rfl)
 have hfin:=hidIt (And.intro hM7 hFw7)
 clear hM7 hFw7 hF7 hown7 hgrow7 hloc7 hl7 hM4 hvc hf4 d0 hM hF hFr
 go_wp2
 exact ⟨⟨k+1,_,by omega,by go_num,hfin.out.1,hxs7,hfin.out.2,hH7⟩,by show ks.length - ((k:Int)+1).toNat<ks.length - ((k:Nat):Int).toNat;omega⟩
end
end Go.Proofs.YtffnihooekbcnaaGreat
namespace Go.Proofs.YtffnihooekbcnaaGreat
open Go.RowKit Go.Maps
theorem oRight_calls (k:Int) (hk:k=1∨k=2∨k=4) (w:World):Calls Tryz.prog 163 #[.int .i64 k] w fun e w'=>e=.returned (.bool true)∧w=w':=by
 rcases hk with rfl | rfl | rfl
 all_goals
  go_enter Tryz.func163,Tryz.ntmps163
  go_wp2
  go_ret
  exact ⟨rfl,rfl⟩
theorem oFits_calls (W n:Nat) (hk:W=1∨W=2∨W=4) (hn:n<256 ^ W) (w:World):Calls Tryz.prog 165 #[.int .i64 (n:Int),.int .i64 (W:Int)] w fun e w'=>e=.returned (.bool true)∧w=w':=by
 have h1:(0:Int)≤(n:Int):=by omega
 rcases hk with rfl | rfl | rfl
 ·have h2:n<256:=hn
  have h3:(n:Int)<256:=by omega
  clear hn h2
  go_enter Tryz.func165,Tryz.ntmps165
  go_wp2
  go_ret
  exact ⟨rfl,rfl⟩
 ·have h2:n<65536:=hn
  have h3:(n:Int)<65536:=by omega
  clear hn h2
  go_enter Tryz.func165,Tryz.ntmps165
  go_wp2
  go_ret
  exact ⟨rfl,rfl⟩
 ·have h2:n<4294967296:=hn
  have h3:(n:Int)<4294967296:=by omega
  clear hn h2
  go_enter Tryz.func165,Tryz.ntmps165
  go_wp2
  go_ret
  exact ⟨rfl,rfl⟩
theorem byte_form (n m:Nat):(n:Int) / 2 ^ (8*m) % 256=((UInt8.ofNat (n / 256 ^ m)).toNat:Int):=by
 rw [ofNat_toNat,show (256:Nat) ^ m=2 ^ (8*m) by rw [Nat.pow_mul]]
 simp
theorem take_map_flat {ns:List Nat} {W k:Nat} (h:k<ns.length):(ns.take (k+1)).flatMap (numL W)=(ns.take k).flatMap (numL W)++numL W (ns.getD k 0):=by
 have hg:ns[k]=ns.getD k 0:=by rw [List.getD_eq_getElem?_getD,List.getElem?_eq_getElem h];rfl
 rw [List.take_succ_eq_append_getElem h,hg,List.flatMap_append]
 simp
theorem flat_num_len (W:Nat):∀ns:List Nat,(ns.flatMap (numL W)).length=ns.length*W
 | []=>by simp
 | n :: ns=>by rw [List.flatMap_cons,List.length_append,numL_length,flat_num_len W ns,List.length_cons,Nat.add_mul];omega
theorem Put_calls (W:Nat) (hW:W=1∨W=2∨W=4) (ns:List Nat) (hns:∀n∈ns,n<256 ^ W) (base:Nat) (v:Value) (bs:List UInt8) (lb:Nat) (c:Nat) (w:World)
 (hown:w.ownsRow base 5 1 v bs.length (bs.flatMap byC)) (hm:bs.length+ns.length*4≤10000000) (hb:base≤w.heap.size) (B:Blk w lb (ns.map fun (n:Nat)=>Value.int .i64 (n:Int)) 3) (hlb:∀k,v.ownBlock=some k→lb≠k) :
 Calls Tryz.prog 113 #[v,.int .i64 (W:Int),.slice (some ⟨lb,0,none⟩) ns.length c] w
  fun e w'=>∃v',e=.returned (.tuple #[v',.bool true])∧w'.ownsRow base 5 1 v' (bs++ns.flatMap (numL W)).length ((bs++ns.flatMap (numL W)).flatMap byC)∧Fr v.ownBlock.toList w w'∧∀x,v'.ownBlock=some x→v.ownBlock=some x∨w.heap.size≤x:=by
 have hat:∀k,k<ns.length→(ns.map fun (n:Nat)=>Value.int .i64 (n:Int))[k]? = some (.int .i64 ((ns.getD k 0:Nat):Int)):=fun k hk=>by
  rw [List.getElem?_map,getD_some 0 hk];rfl
 have hfit:∀k,k<ns.length→ns.getD k 0<256 ^ W:=fun k hk=>hns _ (by rw [List.getD_eq_getElem?_getD,List.getElem?_eq_getElem hk];exact List.getElem_mem _)
 have hW4:W≤4:=by omega
 have lbt:=B.lt
 have keyF:=fun n h w=>oFits_calls W n hW h w
 have keyR:=fun w=>oRight_calls (W:Int) (by omega) w
 go_enter Tryz.func113,Tryz.ntmps113
 go_wp2_with fail
 refine (keyR _).mono ?_
 rintro e w1 ⟨rfl,rfl⟩
 go_wp2_with fail
 go_loopw [19] (fun i wr=>∃k:Nat,k≤ns.length∧i=.int .i64 k∧w=wr) (fun i _=>ns.length - (intOf i).toNat)
 case atStart=>exact ⟨0,Nat.zero_le _,rfl,rfl⟩
 case round =>
  obtain ⟨k,hk,rfl,rfl⟩:=hrel
  by_cases hlt:k<ns.length
  ·have c1:=B.cell k
   rw [hat k hlt] at c1
   have hf:=hfit k hlt
   generalize ns.getD k 0=n at *
   go_wp2_with fail
   refine (keyF n hf _).mono ?_
   rintro e w1 ⟨rfl,rfl⟩
   go_wp2
   go_roundw
   case rel=>exact ⟨k+1,by omega,by go_num,trivial⟩
   case measure=>simp [intOf];omega
  ·clear keyF keyR hfit
   go_wp2
   go_loopw [0,31] (fun u i w2=>∃k:Nat,k≤ns.length∧i=.int .i64 k∧w2.ownsRow base 5 1 u (bs++(ns.take k).flatMap (numL W)).length ((bs++(ns.take k).flatMap (numL W)).flatMap byC)∧(∀x,u.ownBlock=some x→v.ownBlock=some x∨w.heap.size≤x)∧Fr v.ownBlock.toList w w2) (fun _ i _=>ns.length - (intOf i).toNat)
   case atStart=>exact ⟨0,Nat.zero_le _,rfl,by simpa using hown,fun x hx=>.inl hx,Fr.refl _ _⟩
   case round =>
    obtain ⟨k,hk,rfl,hown1,hob1,hF1⟩:=hrel
    by_cases hlt:k<ns.length
    ·have B1:=B.fr hF1 (by intro hx;cases hv:v.ownBlock with | none=>simp [hv] at hx | some x=>simp [hv] at hx;exact hlb x hv hx)
     have c1:=B1.cell k
     rw [hat k hlt] at c1
     have l1:=B1.lt
     have Hst:=hidIt (take_map_flat (W:=W) hlt)
     have hlen:=flat_num_len W (ns.take k)
     generalize ns.getD k 0=n at *
     go_wp2
     go_loopw [0,36] (fun u i w2=>∃j:Nat,j≤W∧i=.int .i64 j∧w2.ownsRow base 5 1 u (bs++(ns.take k).flatMap (numL W)++(numL W n).take j).length ((bs++(ns.take k).flatMap (numL W)++(numL W n).take j).flatMap byC)∧(∀x,u.ownBlock=some x→v.ownBlock=some x∨w.heap.size≤x)∧Fr v.ownBlock.toList w w2) (fun _ i _=>W - (intOf i).toNat)
     case atStart=>exact ⟨0,Nat.zero_le _,rfl,by simpa using hown1,hob1,hF1⟩
     case round =>
      clear hown1 hob1 hF1 B1 c1 l1
      obtain ⟨j,hj,rfl,hown2,hob2,hF2⟩:=hrel
      by_cases hjl:j<W
      ·have Hb:=hidIt (byte_form n (W - 1 - j))
       have Ht:=hidIt (numL_take (n:=n) hjl)
       have hsz:=hF2.size
       have hnl:=numL_length W n
       have hjt:((numL W n).take j).length=j:=by simp [hnl];omega
       have Hlt:(bs++(ns.take k).flatMap (numL W)++(numL W n).take j).length≤4294967296:=by
        have:(ns.take k).length=k:=by simp;omega
        rw [this] at hlen
        have:k*W≤k*4:=Nat.mul_le_mul_left _ hW4
        simp only [List.length_append,hlen,hjt]
        omega
       generalize ((ns.take k).flatMap (numL W))=pre at *
       go_wp2_with (at_builtin;refine Hid.out ?_)
       refine hidIt ?_
       refine wpList_append1 31 5 (.int .u8 0) 1 1 Tryz.underlying31 infoY rfl (by decide) (by decide) rfl _ _ rfl base _ _ _ rfl (hown2.alloc _) [_] rfl (by intro u hu;simp at hu;subst hu;rfl) wr.heap.size rfl (Blk.new _ _ _) Hlt (by simp;omega) ?_
       intro v2 w2 hown3 hgrow3 hloc3
       rw [Hb.out] at hown3
       have e1:(bs++pre++(numL W n).take (j+1)).flatMap byC=(bs++pre++(numL W n).take j).flatMap byC++[Value.int .u8 ((UInt8.ofNat (n / 256 ^ (W - 1 - j))).toNat:Int)]:=by rw [Ht.out];simp
       have e2:(bs++pre++(numL W n).take (j+1)).length=(bs++pre++(numL W n).take j).length+1:=by rw [Ht.out];simp;omega
       have hF3:Fr v.ownBlock.toList w w2:=(hF2.alloc _).grown hgrow3 (fun x hx=>by
        rcases hob2 x hx with h | h
        ·exact .inl (by simp [h])
        ·exact .inr h)
       have hob3:∀x,v2.ownBlock=some x→v.ownBlock=some x∨w.heap.size≤x:=fun x hx=>by
        rcases hloc3 with h | h
        ·rw [h] at hx;exact hob2 x hx
        ·rw [h] at hx;cases hx;right;simp;omega
       clear hown2 Hb Ht
       go_wp2
       go_roundw
       case rel=>exact ⟨j+1,by omega,by go_num,by rw [e1,e2];exact hown3,hob3,hF3⟩
       case measure=>simp [intOf];omega
      ·have hje:j=W:=by omega
       subst hje
       have hnl:=numL_length j n
       rw [show (numL j n).take j=numL j n from List.take_of_length_le (by omega)] at hown2
       go_wp2
       go_roundw
       case rel=>exact ⟨k+1,by omega,by go_num,by rw [Hst.out,←List.append_assoc];exact hown2,hob2,hF2⟩
       case measure=>simp [intOf];omega
    ·have hke:k=ns.length:=by omega
     subst hke
     rw [List.take_length] at hown1
     go_wp2
     go_ret2
     exact ⟨_,rfl,hown1,hF1,hob1⟩
theorem ownBlock_slice {a:Option Addr} {n c k:Nat} (h:(Value.slice a n c).ownBlock=some k):∃p,a=some p∧p.block=k:=by
 cases a with
 | none=>cases h
 | some p=>exact ⟨p,rfl,by simpa [Value.ownBlock] using h⟩
structure RdW (w:World) (rb vb:Nat) (l:List UInt8) (e:Int):Prop where
 ex:∃v,Blk w rb [v,.int .i64 e] 238∧SlY w v l∧∀k,v.ownBlock=some k→k=vb
 ne:vb≠rb
theorem RdW.fr {L:List Nat} {w w':World} {rb vb:Nat} {l:List UInt8} {e:Int} (h:RdW w rb vb l e) (hf:Fr L w w') (h1:rb ∉ L) (h2:vb ∉ L):RdW w' rb vb l e:=by
 obtain ⟨v,hb,hs,hv⟩:=h.ex
 exact ⟨⟨v,hb.fr hf h1,SlF.fr hs hf (fun k hk=>by rw [hv k hk];exact h2),hv⟩,h.ne⟩
theorem RdW.fr0 {w w':World} {rb vb:Nat} {l:List UInt8} {e:Int} (h:RdW w rb vb l e) (hf:Fr [] w w'):RdW w' rb vb l e:=h.fr hf (by simp) (by simp)
theorem RdW.lt {w:World} {rb vb:Nat} {l:List UInt8} {e:Int} (h:RdW w rb vb l e):rb<w.heap.size:=by
 obtain ⟨v,hb,_,_⟩:=h.ex
 exact hb.lt
def rdTake (l:List UInt8) (e n:Int) (am:Bool):List UInt8 × Int × List UInt8 :=
 if e≠0 then (l,e,[]) else if am=true then (l,1,[]) else if (l.length:Int)<n then (l,10,[]) else (l.drop n.toNat,0,l.take n.toNat)
def rdNum (l:List UInt8) (e:Int) (W:Nat):List UInt8 × Int × Nat :=
 if e≠0 then (l,e,0) else if l.length<W then (l,10,0) else (l.drop W,0,valL (l.take W))
def rdEnd (l:List UInt8) (e:Int):Int:=if e=0∧0<l.length then 11 else e
theorem NewReader_calls (v:Value) (l:List UInt8) (w:World) (hs:SlY w v l) (hok:okV v) (hl:l.length≤4294967296) :
 Calls Tryz.prog 107 #[v] w fun e w'=>∃rb vb,e=.returned (.pointer (some ⟨rb,0,none⟩))∧w.heap.size≤vb∧vb<rb∧RdW w' rb vb l 0∧Fr [] w w':=by
 obtain ⟨a,cap,rfl,_,_,_⟩:=hs.open
 go_enter Tryz.func107,Tryz.ntmps107
 go_wp2_with (at_builtin;refine Hid.out ?_)
 refine hidIt ?_
 refine wpList_append_slL 31 5 (.int .u8 0) 1 1 Tryz.underlying31 infoY rfl (by decide) (by decide) rfl _ _ rfl w.heap.size _ 0 _ rfl (World.ownsRow_made w _ 0 (Nat.le_refl _) (by decide) rfl) _ l.length (l.flatMap byC) (Sl.fr0 hs ((Fr.refl _ _).alloc _)) hok (by rw [flatY_length,Nat.mul_one]) (flat_one (fun _=>by_one) l) rfl (by omega) (by omega) (by simp) ?_
 intro v2 w2 hown2 hgrow2 hloc2
 rw [Nat.zero_add,List.nil_append] at hown2
 obtain ⟨a2,c2,rfl,_⟩:=Sl.of_owns hown2
 have hF2:Fr [] w w2:=((Fr.refl [] w).alloc _).grown hgrow2 (fun x hx=>.inr (by cases hx;exact Nat.le_refl _))
 go_wp2
 go_ret
 have hlt2:=hown2.lt
 have hob:=own_base hown2
 have hfb:=(Fr.refl [] w2).alloc (.cells #[.slice a2 l.length c2,.int .i64 0] 238)
 have hz:w.heap.size+1≤w2.heap.size:=by have:=hgrow2.size;simp at this;omega
 have hvb:((Value.slice a2 l.length c2).ownBlock).getD w.heap.size<w2.heap.size∧w.heap.size≤((Value.slice a2 l.length c2).ownBlock).getD w.heap.size:=by
  cases h:(Value.slice a2 l.length c2).ownBlock with
  | none=>simp;omega
  | some k=>exact ⟨(hlt2 k h).2,hob k h⟩
 exact ⟨w2.heap.size,((Value.slice a2 l.length c2).ownBlock).getD w.heap.size,rfl,hvb.2,hvb.1,⟨⟨_,Blk.new w2 [_,_] _,SlF.fr0 (SlF.of_owns hown2) hfb,fun k hk=>by rw [hk];rfl⟩,Nat.ne_of_lt hvb.1⟩,hF2.trans0 hfb⟩
theorem Err_calls (rb vb:Nat) (l:List UInt8) (e:Int) (w:World) (h:RdW w rb vb l e):Calls Tryz.prog 120 #[.pointer (some ⟨rb,0,none⟩)] w fun e' w'=>e'=.returned (.int .i64 e)∧w=w':=by
 obtain ⟨v,hb,hs,_⟩:=h.ex
 obtain ⟨a,cap,rfl,_,_,_⟩:=hs.open
 have c:=hb.cell
 go_enter Tryz.func120,Tryz.ntmps120
 go_wp2
 go_ret
 exact ⟨rfl,rfl⟩
theorem End_calls (rb vb:Nat) (l:List UInt8) (e:Int) (w:World) (h:RdW w rb vb l e):Calls Tryz.prog 111 #[.pointer (some ⟨rb,0,none⟩)] w fun e' w'=>e'=.returned (.int .i64 (rdEnd l e))∧w=w':=by
 obtain ⟨v,hb,hs,_⟩:=h.ex
 obtain ⟨a,cap,rfl,_,_,_⟩:=hs.open
 have c:=hb.cell
 unfold rdEnd
 by_cases he:e=0
 ·subst he
  by_cases hl:0<l.length
  ·rw [if_pos ⟨rfl,hl⟩]
   have hl':(0:Int)<(l.length:Int):=by omega
   go_enter Tryz.func111,Tryz.ntmps111
   go_wp2
   go_ret
   exact ⟨rfl,rfl⟩
  ·rw [if_neg (fun h=>hl h.2)]
   have hl':¬(0:Int)<(l.length:Int):=by omega
   go_enter Tryz.func111,Tryz.ntmps111
   go_wp2
   go_ret
   exact ⟨rfl,rfl⟩
 ·rw [if_neg (fun h=>he h.1)]
  have he':(e == 0)=false:=by simpa using he
  go_enter Tryz.func111,Tryz.ntmps111
  go_wp2
  go_ret
  exact ⟨rfl,rfl⟩
theorem keep_calls (bx rb vb:Nat) (l:List UInt8) (e0:Int) (w:World) (h:RdW w rb vb l 0) (B:Blk w bx [.pointer (some ⟨rb,0,none⟩)] 172) (_:bx≠rb) :
 Calls Tryz.prog 192 #[.int .i64 e0,.pointer (some ⟨bx,0,none⟩)] w fun e' w'=>e'=.returned (.slice none 0 0)∧RdW w' rb vb l e0∧Fr [rb] w w':=by
 obtain ⟨v,hb,hs,hv⟩:=h.ex
 have hne:=h.ne
 have c:=hb.cell
 have f:=hb.frozen
 have l1:=hb.lt
 have cb:=B.cell
 go_enter Tryz.func192,Tryz.ntmps192
 go_wp2
 go_ret
 have hs1:Fr [rb] w (w.setCell ⟨rb,1,none⟩ (.int .i64 e0)):=(Fr.refl _ w).setCell (.inl (by simp)) _
 exact ⟨rfl,⟨⟨v,hb.setCell 1 (.int .i64 e0),SlF.fr hs hs1 (fun k hk=>by rw [hv k hk];simpa using hne),hv⟩,hne⟩,hs1⟩
theorem take_calls (rb vb:Nat) (l:List UInt8) (e n:Int) (am:Bool) (w:World) (h:RdW w rb vb l e) (hn:am=false→0≤n) :
 Calls Tryz.prog 162 #[.pointer (some ⟨rb,0,none⟩),.int .i64 n,.bool am] w
  fun e' w'=>∃x,e'=.returned x∧SlY w' x (rdTake l e n am).2.2∧(∀k,x.ownBlock=some k→k=vb)∧RdW w' rb vb (rdTake l e n am).1 (rdTake l e n am).2.1∧Fr [rb] w w':=by
 have hl1:=h.lt
 have hfa:=(Fr.refl [] w).alloc (.cells #[.pointer (some ⟨rb,0,none⟩)] 172)
 have hA:=h.fr0 hfa
 have B3:=Blk.new w [.pointer (some ⟨rb,0,none⟩)] 172
 obtain ⟨v,hb,hs,hv⟩:=hA.ex
 obtain ⟨a,cap,rfl,hlc,hcm,_⟩:=hs.open
 have hne:=h.ne
 have c:=hb.cell
 have f:=hb.frozen
 have l1:=hb.lt
 have c3:=B3.cell
 by_cases he:e=0
 ·subst he
  cases am with
  | true =>
    have e0:rdTake l 0 n true=(l,1,[]):=by simp [rdTake]
    rw [e0]
    have key:=keep_calls w.heap.size rb vb l 1 _ hA B3 (by omega)
    go_enter Tryz.func162,Tryz.ntmps162
    go_wp2_with fail
    refine key.mono ?_
    rintro e w1 ⟨rfl,hR,hf⟩
    go_wp2
    go_ret
    exact ⟨_,rfl,Sl.nil _,by simp [Value.ownBlock],hR,hfa.weak.trans' hf⟩
  | false =>
    obtain ⟨N,rfl⟩:∃N:Nat,n=(N:Int):=⟨n.toNat,by have:=hn rfl;omega⟩
    by_cases hlen:(l.length:Int)<(N:Int)
    ·have e0:rdTake l 0 (N:Int) false=(l,10,[]):=by unfold rdTake;rw [if_neg (by simp),if_neg (by simp),if_pos hlen]
     rw [e0]
     have key:=keep_calls w.heap.size rb vb l 10 _ hA B3 (by omega)
     go_enter Tryz.func162,Tryz.ntmps162
     go_wp2_with fail
     refine key.mono ?_
     rintro e w1 ⟨rfl,hR,hf⟩
     go_wp2
     go_ret
     exact ⟨_,rfl,Sl.nil _,by simp [Value.ownBlock],hR,hfa.weak.trans' hf⟩
    ·have e0:rdTake l 0 (N:Int) false=(l.drop N,0,l.take N):=by unfold rdTake;rw [if_neg (by simp),if_neg (by simp),if_neg hlen];simp
     rw [e0]
     clear hn
     have hNl:N≤l.length:=by omega
     go_enter Tryz.func162,Tryz.ntmps162
     go_wp2_with fail
     generalize hW1:w.alloc (.cells #[.pointer (some ⟨rb,0,none⟩)] 172)=W1 at *
     clear hW1 B3
     refine wp_region_still_tail 9 (by kernel_rfl) (by as_aux_lemma=>kernel_rfl) ?_
     simp only [List.take_succ_cons,List.take_zero,List.drop_succ_cons,List.drop_zero]
     change wpStill _ _ (World.drew _) _ _ _
     have cd:∀o,W1.drew.cell? ⟨rb,o,none⟩=[Value.slice a l.length cap,.int .i64 0][o]?:=c
     have c3d:∀o,W1.drew.cell? ⟨w.heap.size,o,none⟩=[Value.pointer (some ⟨rb,0,none⟩)][o]?:=c3
     iterate 6 still_step
     refine wpStill_value rfl (.slice (slAddr a cap N 1) (l.length - N) (cap - N)) (by have cc:=cut_from (P:=Tryz.prog) (w:=W1.drew) 31 5 1 Tryz.underlying31 (by kernel_rfl) a l.length cap N hNl;go_simp) ?_
     iterate 2 still_step
     refine wpStill_nil ?_
     change wpList _ _ _ _ _ (World.drew _)
     go_wp2
     go_ret
     have hsx:=(SlF.to 1 (fun _=>rfl) hs hNl)
     have hsd:=(SlF.from 1 (fun _=>rfl) hs hNl)
     have hs1:Fr [rb] w (W1.drew.setCell ⟨rb,0,none⟩ (.slice (slAddr a cap N 1) (l.length - N) (cap - N))):=hfa.weak.drew.setCell (.inl (by simp)) _
     have hs2:Fr [rb] W1 (W1.drew.setCell ⟨rb,0,none⟩ (.slice (slAddr a cap N 1) (l.length - N) (cap - N))):=(Fr.refl _ W1).drew.setCell (.inl (by simp)) _
     have hva:∀p,a=some p→p.block=vb:=fun p hp=>hv _ (by simp [Value.ownBlock,hp])
     have hvs:∀p,slAddr a cap N 1=some p→p.block=vb:=fun p hp=>by
      unfold slAddr at hp
      split at hp
      ·exact hva p hp
      ·cases a with
       | none=>cases hp
       | some q=>simp at hp;subst hp;have:=hva q rfl;unfold Addr.add;split <;> simp_all
     refine ⟨_,rfl,SlF.fr hsx hs2 ?_,?_,⟨⟨_,(hb.drew).setCell 0 _,SlF.fr hsd hs2 ?_,?_⟩,hne⟩,hs1⟩
     ·intro k hk;obtain ⟨p,hp,rfl⟩:=ownBlock_slice hk;rw [hva p hp];simpa using hne
     ·intro k hk;obtain ⟨p,hp,rfl⟩:=ownBlock_slice hk;exact hva p hp
     ·intro k hk;obtain ⟨p,hp,rfl⟩:=ownBlock_slice hk;rw [hvs p hp];simpa using hne
     ·intro k hk;obtain ⟨p,hp,rfl⟩:=ownBlock_slice hk;exact hvs p hp
 ·have e0:rdTake l e n am=(l,e,[]):=by simp [rdTake,he]
  rw [e0]
  have heb:(e == 0)=false:=by simpa using he
  go_enter Tryz.func162,Tryz.ntmps162
  go_wp2
  go_ret
  exact ⟨_,rfl,Sl.nil _,by simp [Value.ownBlock],hA,hfa.weak⟩
theorem or_form (V C:Nat) (hV:V<16777216) (hC:C<256):bits .or .i64 ((V:Int)*256) (C:Int)=((V*256+C:Nat):Int):=by
 have h1:((V:Int)*256)=((V*256:Nat):Int):=by simp
 have e1:(BitVec.ofInt 64 ((V*256:Nat):Int)).toNat=V*256:=by rw [BitVec.toNat_ofInt];omega
 have e2:(BitVec.ofInt 64 (C:Int)).toNat=C:=by rw [BitVec.toNat_ofInt];omega
 have e3:V*256 ||| C=V*256+C:=nat_join 8 _ _ (by omega) hC
 rw [h1]
 show IntKind.i64.wrap ((BitVec.ofInt 64 ((V*256:Nat):Int) ||| BitVec.ofInt 64 (C:Int)).toNat:Int)=_
 rw [BitVec.toNat_or,e1,e2,e3]
 exact IntWalk.i64_in _ (by omega)
theorem Num_calls (W:Nat) (hW:W=1∨W=2∨W=4) (rb vb:Nat) (l:List UInt8) (e:Int) (w:World) (h:RdW w rb vb l e) :
 Calls Tryz.prog 108 #[.pointer (some ⟨rb,0,none⟩),.int .i64 (W:Int)] w
  fun e' w'=>e'=.returned (.int .i64 ((rdNum l e W).2.2:Int))∧RdW w' rb vb (rdNum l e W).1 (rdNum l e W).2.1∧Fr [rb] w w':=by
 have kR:=fun w=>oRight_calls (W:Int) (by omega) w
 have kT:=fun X h=>take_calls rb vb l e (W:Int) false X h (fun _=>by omega)
 obtain ⟨x,hx⟩:∃x,(rdTake l e (W:Int) false).2.2=x:=⟨_,rfl⟩
 have hxl:x.length=0∨x.length=W:=by
  rw [←hx];unfold rdTake
  split
  ·exact .inl rfl
  ·split
   ·exact .inl rfl
   ·split
    ·exact .inl rfl
    ·right;simp;omega
 have hres:rdNum l e W=((rdTake l e (W:Int) false).1,(rdTake l e (W:Int) false).2.1,valL x):=by
  rw [←hx]
  by_cases he:e=0
  ·by_cases hl:l.length<W
   ·have hl':(l.length:Int)<(W:Int):=by omega
    simp [rdNum,rdTake,he,hl,hl',valL]
   ·have hl':¬(l.length:Int)<(W:Int):=by omega
    simp [rdNum,rdTake,he,hl]
  ·simp [rdNum,rdTake,he,valL]
 rw [hres]
 rw [hx] at kT
 simp only
 generalize (rdTake l e (W:Int) false).1=l2 at *
 generalize (rdTake l e (W:Int) false).2.1=e2 at *
 clear hres hx
 go_enter Tryz.func108,Tryz.ntmps108
 go_wp2_with fail
 refine (kR _).mono ?_
 rintro e w1 ⟨rfl,rfl⟩
 go_wp2_with fail
 refine (kT _ h).mono ?_
 rintro e w1 ⟨v,rfl,hs,hv,hR,hf⟩
 obtain ⟨a,cap,rfl,hlc,hcm,_⟩:=hs.open
 have hx8:¬(x.length:Int)=8:=by omega
 have hx8b:((x.length:Int) == 8)=false:=by simpa using hx8
 have hx4:x.length≤4:=by omega
 clear kR kT h hxl hx8
 go_wp2
 go_loopw [5,29] (fun r i wr=>∃k:Nat,k≤x.length∧i=.int .i64 k∧r=.int .i64 (valL (x.take k):Int)∧w1=wr) (fun _ i _=>x.length - (intOf i).toNat)
 case atStart=>exact ⟨0,Nat.zero_le _,rfl,rfl,rfl⟩
 case round =>
  obtain ⟨k,hk,rfl,rfl,rfl⟩:=hrel
  by_cases hlt:k<x.length
  ·obtain ⟨b,off,rfl,hb,c0⟩:=SlY.at hs hlt
   have Hst:Hid (x.take (k+1)=x.take k++[x.getD k 0]):=hidIt (by
    have hg:x[k]=x.getD k 0:=by rw [List.getD_eq_getElem?_getD,List.getElem?_eq_getElem hlt];rfl
    rw [List.take_succ_eq_append_getElem hlt,hg])
   have hvl:=valL_lt (x.take k)
   have htk:(x.take k).length=k:=by simp;omega
   rw [htk] at hvl
   have hk3:k≤3:=by omega
   have hv3:valL (x.take k)<16777216:=Nat.lt_of_lt_of_le hvl (by have:=Nat.pow_le_pow_right (n:=256) (by omega) hk3;exact this)
   have hbyte:=(x.getD k 0).toNat_lt
   generalize x.getD k 0=c at *
   generalize hvv:valL (x.take k)=V at *
   generalize hcc:c.toNat=C at *
   go_wp2
   rw [or_form V C hv3 hbyte]
   go_roundw
   case rel=>exact ⟨k+1,by omega,by go_num,by rw [Hst.out,valL_snoc,hvv,hcc],trivial⟩
   case measure=>simp [intOf];omega
  ·have hke:k=x.length:=by omega
   subst hke
   rw [List.take_length]
   go_wp2
   go_ret
   exact ⟨rfl,hR,hf⟩
theorem strCells_by (s:List UInt8):Go.Lib.strCells ⟨s.toArray⟩=s.flatMap byC:=by
 unfold Go.Lib.strCells
 induction s with
 | nil=>rfl
 | cons x l ih=>simpa [byC] using ih
theorem wpList_append_strL {P:Program} {ops:Array Oper} {rest:List Oper} {o:Oper} {a:Act} {Q:Exit→Act→World→Prop} (w:World) (hgd:o.guard=none) (sl x:Operand) (t u:TypeId)
 (ho:o.op=.call { callee:=.builtin .append,args:=#[sl,x],argTypes:=#[t,u] })
 (base:Nat) (e:TypeId) (i:TypeInfo) (ht:P.underlying t=some (.slice e)) (hu:P.underlying u=some .string) (hi:P.info? e=some i) (hz:i.zero=some (.int .u8 0))
 (hsize:i.size=1) (hby:i.bytes=1)
 (v:Value) (n:Nat) (xs:List Value) (hs:a.eval sl=v) (hown:w.ownsRow base e 1 v n xs) (s:ByteArray) (hx:a.eval x=.string s)
 (h63:n+s.size≤maxLen) (hbytes:n+s.size≤140737488355328) (hbase:base≤w.heap.size)
 (h:∀v' w',w'.ownsRow base e 1 v' (n+s.size) (xs++Go.Lib.strCells s)→w.grownBy w' v.ownBlock→(v'.ownBlock=v.ownBlock∨v'.ownBlock=some w.heap.size)→wpList P ops Q rest (a.put o.dst v') w'):wpList P ops Q (o :: rest) a w:=by
 refine wpList_plain hgd fun K hK=>?_
 obtain ⟨v',w',hr,h2,h3,h4⟩:=Go.Lib.run_append_own_string (P:=P) w base t u o.type e i ht hu hi hz hsize hby v n xs hown s h63 hbytes hbase
 unfold Oper.wp execOp
 simp only [ho,resolve,invoke,builtin,Sem.run_bind,Sem.run_pure,Result.andThen_ok,List.map_toArray,List.map_cons,List.map_nil,hs,hx,hr]
 refine hK _ _ (h v' w' h2 h3 ?_)
 rcases hown.2 with ⟨rfl,rfl⟩ | ⟨g,cap,cur,rfl,hbg,hg,hnc,hcm,hcs,htake⟩
 ·by_cases hm:s.size=0
  ·left
   rw [h4.2 ⟨rfl,hm⟩]
  ·right
   have hr2:=run_append_nil_string (P:=P) w t u o.type e i (.int .u8 0) ht hu hi hz s (by omega) (by unfold maxLen at h63;omega) (by rw [hby];omega)
   have:=(Result.ok.inj (hr.symm.trans hr2)).1
   rw [this]
   rfl
 ·by_cases hroom:n+s.size≤cap
  ·left
   have hcs':cur.size=cap:=by simpa using hcs
   have hr2:=Go.Lib.run_append_room_string (P:=P) w t u o.type e i ht hu hi hsize g n cap cur hg s hroom (by omega)
   have:=(Result.ok.inj (hr.symm.trans hr2)).1
   rw [this]
   rfl
  ·right
   have hxl:xs.length=n:=by simpa using hown.1
   have holds:∀j u,xs[j]? = some u→w.cell? ((⟨g,0,none⟩:Addr).add j)=some u:=hown.cells (g:=g) rfl
   have hr2:=Go.Lib.run_append_grow_string (P:=P) w t u o.type e i (.int .u8 0) ht hu hi hz ⟨g,0,none⟩ n cap xs (by rw [hsize];simpa using hxl) holds s (by omega) (by unfold maxLen at h63;omega) (by rw [hby];exact growslice_fits (by omega) (by omega))
   have:=(Result.ok.inj (hr.symm.trans hr2)).1
   rw [this]
   rfl
theorem oText_calls (W:Nat) (hW:W=1∨W=2∨W=4) (base:Nat) (v:Value) (bs s:List UInt8) (w:World) (hown:w.ownsRow base 5 1 v bs.length (bs.flatMap byC)) (hs:s.length<256 ^ W)
 (hm:bs.length+4≤1000000) (hsm:s.length≤1000000) (hb:base≤w.heap.size) :
 Calls Tryz.prog 115 #[v,strL s,.int .i64 (W:Int)] w
  fun e w'=>∃v',e=.returned (.tuple #[v',.bool true])∧w'.ownsRow base 5 1 v' (bs++numL W s.length++s).length ((bs++numL W s.length++s).flatMap byC)∧Fr v.ownBlock.toList w w'∧∀x,v'.ownBlock=some x→v.ownBlock=some x∨w.heap.size≤x:=by
 obtain ⟨t,ht⟩:∃t,strL s=.string t:=⟨_,rfl⟩
 have hlen:=fun ty X=>len_str s ty X
 have hgi:goInt s.length=.int .i64 s.length:=rfl
 rw [hgi] at hlen
 rw [ht] at hlen ⊢
 have hts:t.size=s.length:=by cases ht;exact size_str s
 have htc:Go.Lib.strCells t=s.flatMap byC:=by cases ht;exact strCells_by s
 clear hgi
 go_enter Tryz.func115,Tryz.ntmps115
 go_wp2_with fail
 refine (Put_calls W hW [s.length] (by intro x hx;have:=List.mem_singleton.1 hx;subst this;exact hs) base v bs w.heap.size 1 _ (hown.alloc _) (by simp;omega) (by simp;omega) (Blk.new w [_] _) (fun k hk e=>by have:=(hown.lt k hk).2;omega)).mono ?_
 rintro e w1 ⟨v1,rfl,hown1,hf1,hob1⟩
 have hF1:Fr v.ownBlock.toList w w1:=((Fr.refl _ w).alloc (.cells #[.int .i64 s.length] 3)).trans' hf1
 have e1:bs++[s.length].flatMap (numL W)=bs++numL W s.length:=by simp
 rw [e1] at hown1
 have hW4:W≤4:=by omega
 have hpl:(bs++numL W s.length).length=bs.length+W:=by simp [numL_length]
 generalize hp:bs++numL W s.length=pre at hown1 hpl
 have Hp:=hidIt hp
 clear hp
 have hsz:=hF1.size
 simp only [World.size_alloc] at hob1
 clear hf1 e1
 go_wp2_with (at_builtin;refine Hid.out ?_)
 refine hidIt ?_
 obtain ⟨i0,hi,hz0,hz1,hz2⟩:=info_parts infoY
 refine wpList_append_strL _ rfl _ _ _ _ rfl base 5 i0 Tryz.underlying31 Tryz.underlying9 hi hz0 hz1 hz2 v1 pre.length _ rfl hown1 t rfl (by unfold maxLen;omega) (by omega) (by omega) ?_
 intro v2 w2 hown2 hgrow2 hloc2
 rw [htc,hts,←List.flatMap_append,←List.length_append] at hown2
 have hF2:Fr v.ownBlock.toList w w2:=hF1.grown hgrow2 (fun x hx=>by
  rcases hob1 x hx with h | h
  ·exact .inl (by simp [h])
  ·exact .inr (by omega))
 have hob2:∀x,v2.ownBlock=some x→v.ownBlock=some x∨w.heap.size≤x:=fun x hx=>by
  rcases hloc2 with h | h
  ·rw [h] at hx
   rcases hob1 x hx with h | h
   ·exact .inl h
   ·exact .inr (by omega)
  ·rw [h] at hx
   cases hx
   exact .inr hsz
 go_wp2
 go_ret2
 exact ⟨_,rfl,by rw [Hp.out];exact hown2,hF2,hob2⟩
def rdText (l:List UInt8) (e:Int) (W:Nat):List UInt8 × Int × List UInt8:=rdTake (rdNum l e W).1 (rdNum l e W).2.1 ((rdNum l e W).2.2:Int) false
theorem Text_calls (W:Nat) (hW:W=1∨W=2∨W=4) (rb vb:Nat) (l:List UInt8) (e:Int) (w:World) (h:RdW w rb vb l e) :
 Calls Tryz.prog 109 #[.pointer (some ⟨rb,0,none⟩),.int .i64 (W:Int)] w
  fun e' w'=>e'=.returned (strL (rdText l e W).2.2)∧RdW w' rb vb (rdText l e W).1 (rdText l e W).2.1∧Fr [rb] w w':=by
 unfold rdText
 have key:=Num_calls W hW rb vb l e w h
 generalize rdNum l e W=q at *
 obtain ⟨l1,e1,n⟩:=q
 simp only at key ⊢
 go_enter Tryz.func109,Tryz.ntmps109
 go_wp2_with fail
 refine key.mono ?_
 rintro e w1 ⟨rfl,h1,hf1⟩
 go_wp2_with fail
 refine (take_calls rb vb l1 e1 (n:Int) false w1 h1 (fun _=>by omega)).mono ?_
 rintro e w2 ⟨v,rfl,hs,hv,hR,hf⟩
 have hc:=conv_str hs
 go_wp2
 go_ret
 exact ⟨rfl,hR,hf1.trans' hf⟩
end Go.Proofs.YtffnihooekbcnaaGreat
