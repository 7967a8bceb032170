/-
  slices.Equal of bytes.
-/
import Derived.Test.YtffnihooekbcnaaGreatG00
import Derived.BigQuiet
import Derived.Test.YtffnihooekbcnaaGreatG21
set_option maxRecDepth 100000
set_option maxHeartbeats 6400000
namespace Go.Proofs.YtffnihooekbcnaaGreat
open Go.RowKit Go.Maps
theorem EqualY_calls (v u:Value) (l m:List UInt8) (w:World) (hv:SlY w v l) (hu:SlY w u m):Calls Tryz.prog 112 #[v,u] w fun e w'=>e=.returned (.bool (decide (l=m)))∧Fr [] w w':=by
 obtain ⟨a,cap,rfl,_,hcm,_⟩:=hv.open
 obtain ⟨a',cap',rfl,_,hcm',_⟩:=hu.open
 unfold maxLen at hcm hcm'
 by_cases hlen:l.length=m.length
 ·have hli:((l.length:Int) != (m.length:Int))=false:=by simp [hlen]
  have Heq:Hid ((∀i,i<l.length→l.getD i 0=m.getD i 0)→decide (l=m)=true):=hidIt (fun h=>decide_eq_true (by
   apply List.ext_getElem hlen
   intro i h1 h2
   have:=h i h1
   rw [List.getD_eq_getElem?_getD,List.getElem?_eq_getElem h1,List.getD_eq_getElem?_getD,List.getElem?_eq_getElem h2] at this
   exact this))
  have Hne:∀i,Hid (l.getD i 0≠m.getD i 0→decide (l=m)=false):=fun i=>hidIt (fun h=>decide_eq_false (fun e=>h (by rw [e])))
  generalize decide (l=m)=res at *
  have Hlen:=hidIt hlen
  clear hlen
  go_enter Tryz.func112,Tryz.ntmps112
  go_wp2
  go_loopw [13] (fun i wr=>∃k:Nat,k≤l.length∧i=.int .i64 k∧(∀j,j<k→l.getD j 0=m.getD j 0)∧Fr [] w wr) (fun i _=>l.length - (intOf i).toNat)
  case atStart=>exact ⟨0,Nat.zero_le _,rfl,fun j hj=>by omega,Fr.refl _ _⟩
  case round =>
   obtain ⟨k,hk,rfl,hall,hF⟩:=hrel
   by_cases hlt:k<l.length
   ·have hlt':k<m.length:=by rw [←Hlen.out];exact hlt
    obtain ⟨b,off,rfl,hb,c0⟩:=SlY.at (SlF.fr0 hv hF) hlt
    obtain ⟨b',off',rfl,hb',c0'⟩:=SlY.at (SlF.fr0 hu hF) hlt'
    have hkm:(k:Int)<(m.length:Int):=by omega
    have hne:=Hne k
    have hnx:Hid (l.getD k 0=m.getD k 0→∀j,j<k+1→l.getD j 0=m.getD j 0):=hidIt (fun h j hj=>by
     by_cases e:j=k
     ·subst e;exact h
     ·exact hall j (by omega))
    clear Hne hall Heq
    generalize l.getD k 0=x at *
    generalize m.getD k 0=y at *
    by_cases hxy:x=y
    ·have hb1:((x.toNat:Int) != (y.toNat:Int))=false:=by simp [hxy]
     replace hnx:=hidIt (hnx.out hxy)
     clear hne hxy
     generalize (x.toNat:Int)=X at *
     generalize (y.toNat:Int)=Y at *
     go_wp2_with fail
     go_quiet (fail)
     go_wp2
     go_roundw
     case rel=>exact ⟨k+1,by omega,by go_num,hnx.out,hF.drewN _⟩
     case measure=>simp [intOf];omega
    ·have hb1:((x.toNat:Int) != (y.toNat:Int))=true:=by
      simp
      intro h
      exact hxy (UInt8.toNat_inj.1 (by omega))
     replace hne:=hidIt (hne.out hxy)
     clear hnx hxy
     generalize (x.toNat:Int)=X at *
     generalize (y.toNat:Int)=Y at *
     go_wp2_with fail
     go_quiet (fail)
     go_wp2
     go_ret
     exact ⟨ret_bool hne.out.symm,hF.drewN _⟩
   ·have hke:k=l.length:=by omega
    subst hke
    have hres:=hidIt (Heq.out hall)
    clear Heq Hne hall
    go_wp2
    go_ret
    exact ⟨ret_bool hres.out.symm,hF⟩
 ·have hli:((l.length:Int) != (m.length:Int))=true:=by simp;omega
  have hd:decide (l=m)=false:=decide_eq_false (fun e=>hlen (by rw [e]))
  rw [hd]
  clear hd hlen
  go_enter Tryz.func112,Tryz.ntmps112
  go_wp2
  go_ret
  exact ⟨rfl,Fr.refl _ _⟩
theorem sumOpen_calls (v:Value) (l:By) (w:World) (hv:SlY w v l) (hl:l.length≤1000) (h4:4≤l.length) :
 Calls Tryz.prog 214 #[v] w fun e w'=>(∃u,e=.returned (.tuple #[u,.bool (decide (sealB (l.take (l.length - 4))=l))])∧(sealB (l.take (l.length - 4))=l→SlY w' u (l.take (l.length - 4))∧okV u∧∀k,u.ownBlock=some k→w.heap.size≤k))∧Fr [] w w':=by
 obtain ⟨a,cap,rfl,hlc,hcm,_⟩:=SlF.open hv
 unfold maxLen at hcm
 obtain ⟨m,hm⟩:∃m,Hid (l.length - 4=m):=⟨_,hidIt rfl⟩
 rw [hm.out]
 have hml:m≤l.length:=by have:=hm.out;omega
 have hto:=fun W=>cut_to (P:=Tryz.prog) (w:=W) 31 5 1 Tryz.underlying31 (by kernel_rfl) a l.length cap m (by omega)
 have hv1:=SlF.to 1 (fun _=>rfl) hv (m:=m) hml
 have hsub:IntKind.i64.wrap ((l.length:Int) - 4)=(m:Int):=by rw [IntWalk.i64_in _ (by omega)];have:=hm.out;omega
 have hsub2:(l.length:Int) - 4=(m:Int):=by have:=hm.out;omega
 have hlt:¬(l.length:Int)<4:=by omega
 have htl:(l.take m).length=m:=by simp;omega
 obtain ⟨x,hx⟩:∃x,Hid (l.take m=x):=⟨_,hidIt rfl⟩
 rw [hx.out] at hv1 htl ⊢
 have kS:=sumSeal_calls _ x w hv1 (by omega)
 go_enter Tryz.func214,Tryz.ntmps214
 go_wp2_with fail
 refine kS.mono ?_
 rintro e w1 ⟨u,rfl,hu,hf1⟩
 clear kS
 have kE:=EqualY_calls u _ (sealB x) l w1 (SlF.of_owns hu) (SlF.fr0 hv hf1)
 go_wp2_with fail
 refine kE.mono ?_
 rintro e w2 ⟨rfl,hf2⟩
 clear kE
 by_cases heq:sealB x=l
 case neg =>
  have hd:=decide_eq_false heq
  rw [hd]
  clear hx hm
  go_wp2
  go_ret2
  exact ⟨⟨_,by rw [hd];rfl,fun h=>absurd h heq⟩,hf1.trans0 hf2⟩
 have hd:=decide_eq_true heq
 rw [hd]
 have hF2:=hf1.trans0 hf2
 have kC:=CloneY_calls _ x w2 (SlF.fr0 hv1 hF2) (by omega)
 rw [htl] at kC
 clear hx hm heq
 go_wp2_with fail
 refine kC.mono ?_
 rintro e w3 ⟨u3,rfl,hu3,hf3⟩
 clear kC
 go_wp2
 go_ret2
 have hz:=hF2.size
 exact ⟨⟨_,by rw [hd];rfl,fun _=>⟨SlF.of_owns (by rw [htl];exact hu3),okV.of_owns hu3,fun k hk=>Nat.le_trans hz (own_base hu3 k hk)⟩⟩,hF2.trans0 hf3⟩
end Go.Proofs.YtffnihooekbcnaaGreat
namespace Go.Proofs.YtffnihooekbcnaaGreat
open Go.RowKit Go.Maps
attribute [local go_sem] mapAt_alloc mapAt_setCell mapAt_drew mapAt_drewN
theorem rdNum_app (W n:Nat) (r:By) (h:n<256 ^ W):rdNum (numL W n++r) 0 W=(r,0,n):=by
 unfold rdNum
 rw [if_neg (fun h=>h rfl),if_neg (by rw [List.length_append,numL_length];omega)]
 have h1:(numL W n++r).drop W=r:=by
  conv=>lhs;rw [show W=(numL W n).length from (numL_length W n).symm]
  rw [numL_length]
  simp [numL_length]
 have h2:(numL W n++r).take W=numL W n:=by
  rw [List.take_append_of_le_length (by rw [numL_length];exact Nat.le_refl _)]
  exact List.take_of_length_le (by rw [numL_length];exact Nat.le_refl _)
 rw [h1,h2,valL_numL,Nat.mod_eq_of_lt h]
section
variable {P:Program} {w:World} (t e:TypeId) (k:Nat) (ht:P.underlying t=some (.slice e)) (hk:(sizeOf e).run P w=.ok k w)
include ht hk
theorem cut_hm (a:Option Addr) (n cap h m:Nat) (h1:h≤m) (h2:m≤cap) :
 (Instr.sliceAt t (.slice a n cap) none (some (.int .i64 (h:Int))) (some (.int .i64 (m:Int)))).run P w=.ok (.slice a h m) w:=by
 have he:P.elem t=e:=by simp [Program.elem,ht]
 have ht':P.underlying t=some (.slice (P.elem t)):=by rw [he,ht]
 rw [run_sliceAt_slice (h:=ht'),run_slice_hm (ht:=ht') (h0:=by omega) (h2:=by omega) (h3:=by omega),he,hk]
 cases a <;> simp [sliced,Addr.add_zero']
end
theorem SlF.recap {α:Type} {f:α→List Value} {w:World} {a:Option Addr} {n cap cap':Nat} {l:List α} (h:SlF f w (.slice a n cap) l) (h1:n≤cap') (h2:cap'≤maxLen):SlF f w (.slice a n cap') l:=by
 obtain ⟨a',cap0,hv,_,_,hc⟩:=h
 cases hv
 exact ⟨_,cap',rfl,h1,h2,hc⟩
section
variable {w w':World} {sb sm nm:Nat} {v:Value} {f g:Nat→Option By}
theorem saArea_calls (w:World):Calls Tryz.prog 217 #[.int .i64 512] w fun e w'=>e=.returned (.int .i64 255)∧w'=w:=by
 go_enter Tryz.func217,Tryz.ntmps217
 go_wp2
 go_ret
 exact ⟨rfl,rfl⟩
theorem saMost_calls (w:World):Calls Tryz.prog 215 #[.int .i64 512] w fun e w'=>e=.returned (.int .i64 4080)∧w'=w:=by
 have kA:=saArea_calls w
 go_enter Tryz.func215,Tryz.ntmps215
 go_wp2_with fail
 refine kA.mono ?_
 rintro e w1 ⟨rfl,hw1⟩
 rw [hw1]
 go_wp2
 go_ret
 exact ⟨rfl,rfl⟩
theorem saCopied_no (k:Nat) (h:StoW w sb sm nm v 512 f g) (hk:k<2) (h0:secF g k=zBy 16):Calls Tryz.prog 196 #[.pointer (some ⟨sb,0,none⟩),.int .i64 (k:Int)] w fun e w'=>e=.returned (.tuple #[.slice none 0 0,.int .i64 0])∧Fr [] w w':=by
 have kR:Calls Tryz.prog 213 #[.pointer (some ⟨sb,0,none⟩),.int .i64 (k:Int),.int .i64 1] w _:=stRead_calls k 1 h (by omega) (by omega)
 have e1:secsF g k 1=zBy 16:=by simp [secsF,h0]
 rw [e1] at kR
 go_enter Tryz.func196,Tryz.ntmps196
 go_wp2_with fail
 refine kR.mono ?_
 rintro e w1 ⟨u,rfl,hu,_,_,hf1⟩
 clear kR
 have kO:=sumOpen_calls u (zBy 16) w1 hu (by simp [zBy]) (by simp [zBy])
 have hno:sealB ((zBy 16).take ((zBy 16).length - 4))≠zBy 16:=zero_open
 have hd:=decide_eq_false hno
 rw [hd] at kO
 clear hd
 go_wp2_with fail
 refine kO.mono ?_
 rintro e w2 ⟨⟨x,rfl,_⟩,hf2⟩
 clear kO hno
 go_wp2
 go_ret2
 exact ⟨rfl,hf1.trans0 hf2⟩
def savedG (g:Nat→Option By) (b:By):Prop:=b.length≤4080∧secF g 0=headB b∧(secsF g 2 255).take b.length=b
def saCopiedPost (w:World) (b:By) (e:Ending) (w':World):Prop:=∃u,e=.returned (.tuple #[u,.int .i64 1])∧SlY w' u b∧okV u∧(∀k,u.ownBlock=some k→w.heap.size≤k)∧Fr [] w w'
theorem saCopied_yes (b:By) (h:StoW w sb sm nm v 512 f g) (hb:savedG g b):Calls Tryz.prog 196 #[.pointer (some ⟨sb,0,none⟩),.int .i64 0] w (saCopiedPost w b):=by
 obtain ⟨hb1,hb2,hb3⟩:=hb
 have kR:Calls Tryz.prog 213 #[.pointer (some ⟨sb,0,none⟩),.int .i64 0,.int .i64 1] w _:=stRead_calls 0 1 h (by omega) (by omega)
 have e1:secsF g 0 1=headB b:=by simp [secsF,hb2]
 rw [e1] at kR
 obtain ⟨pre,hpre⟩:∃pre,Hid (numL 4 1++numL 4 b.length++numL 4 (sumN b)=pre):=⟨_,hidIt rfl⟩
 have hpl:pre.length=12:=by rw [←hpre.out];simp [numL_length]
 have hhe:headB b=sealB pre:=by rw [←hpre.out];rfl
 rw [hhe] at kR
 have hsl:(sealB pre).length=16:=by rw [sealB_len,hpl]
 have htk:(sealB pre).take 12=pre:=by
  unfold sealB
  rw [List.take_append_of_le_length (by omega)]
  exact List.take_of_length_le (by omega)
 go_enter Tryz.func196,Tryz.ntmps196
 go_wp2_with fail
 refine kR.mono ?_
 rintro e w1 ⟨u,rfl,hu,_,_,hf1⟩
 clear kR
 have kO:=sumOpen_calls u (sealB pre) w1 hu (by omega) (by omega)
 rw [hsl,htk,decide_eq_true (rfl:sealB pre=sealB pre)] at kO
 go_wp2_with fail
 refine kO.mono ?_
 rintro e w2 ⟨⟨x,rfl,hx⟩,hf2⟩
 obtain ⟨hx1,hx2,_⟩:=hx trivial
 clear kO hx hu
 have hF2:=hf1.trans0 hf2
 go_wp2_with fail
 refine (NewReader_calls x pre w2 hx1 hx2 (by omega)).mono ?_
 rintro e w3 ⟨rb,vb,rfl,hvb,hrb,hR,hf3⟩
 have hz2:=hF2.size
 have hF3:=hF2.trans0 hf3
 have n1:rdNum pre 0 4=(numL 4 b.length++numL 4 (sumN b),0,1):=by rw [←hpre.out,List.append_assoc];exact rdNum_app 4 1 _ (by decide)
 have n2:rdNum (numL 4 b.length++numL 4 (sumN b)) 0 4=(numL 4 (sumN b),0,b.length):=rdNum_app 4 _ _ (by omega)
 have n3:rdNum (numL 4 (sumN b)) 0 4=([],0,sumN b):=by have:=rdNum_app 4 (sumN b) [] (sumN_lt b);rwa [List.append_nil] at this
 have k1:Calls Tryz.prog 108 #[.pointer (some ⟨rb,0,none⟩),.int .i64 4] w3 _:=Num_calls 4 (by omega) rb vb _ 0 w3 hR
 rw [n1] at k1
 go_wp2_with fail
 refine k1.mono ?_
 rintro e w4 ⟨rfl,hR4,hf4⟩
 have k2:Calls Tryz.prog 108 #[.pointer (some ⟨rb,0,none⟩),.int .i64 4] w4 _:=Num_calls 4 (by omega) rb vb _ 0 w4 hR4
 rw [n2] at k2
 clear k1 n1
 go_wp2_with fail
 refine k2.mono ?_
 rintro e w5 ⟨rfl,hR5,hf5⟩
 have k3:Calls Tryz.prog 108 #[.pointer (some ⟨rb,0,none⟩),.int .i64 4] w5 _:=Num_calls 4 (by omega) rb vb _ 0 w5 hR5
 rw [n3] at k3
 clear k2 n2
 go_wp2_with fail
 refine k3.mono ?_
 rintro e w6 ⟨rfl,hR6,hf6⟩
 clear k3 n3 hR hR4 hR5 hR6
 have hF6:Fr [] w w6:=((hF3.trans1 hf4 (by omega)).trans1 hf5 (by omega)).trans1 hf6 (by omega)
 have h6:=h.fr0 hF6
 have kL:=stLen_calls h6
 have kM:=saMost_calls w6
 have kA:=saArea_calls w6
 have kR2:Calls Tryz.prog 213 #[.pointer (some ⟨sb,0,none⟩),.int .i64 2,.int .i64 255] w6 _:=stRead_calls 2 255 h6 (by omega) (by omega)
 have hl1:¬(4080:Int)<(b.length:Int):=by omega
 have hsl2:=h6.seen.1.secs 2 255
 clear h h6 hf1 hf2 hf3 hf4 hf5 hf6 hF2 hF3 e1 hhe htk hsl hpl hx1 hx2 hb2
 go_wp2_with fail
 refine kL.mono ?_
 rintro e w7 ⟨rfl,hw⟩
 rw [hw]
 clear hw w7
 go_wp2_with fail
 refine kM.mono ?_
 rintro e w7 ⟨rfl,hw⟩
 rw [hw]
 clear hw w7
 go_wp2_with fail
 refine kL.mono ?_
 rintro e w7 ⟨rfl,hw⟩
 rw [hw]
 clear hw w7
 go_wp2_with fail
 refine kA.mono ?_
 rintro e w7 ⟨rfl,hw⟩
 rw [hw]
 clear hw w7
 go_wp2_with fail
 refine kL.mono ?_
 rintro e w7 ⟨rfl,hw⟩
 rw [hw]
 clear hw w7
 go_wp2_with fail
 refine kA.mono ?_
 rintro e w7 ⟨rfl,hw⟩
 rw [hw]
 clear hw w7
 go_wp2_with fail
 refine kR2.mono ?_
 rintro e w7 ⟨u7,rfl,hu7,ho7,hn7,hf7⟩
 clear kR2 kL kM kA
 obtain ⟨a7,cap7,rfl,hlc7,hcm7,_⟩:=SlF.open hu7
 have hto:=fun W=>cut_to (P:=Tryz.prog) (w:=W) 31 5 1 Tryz.underlying31 (by kernel_rfl) a7 (secsF g 2 255).length cap7 b.length (by omega)
 have hhm:=fun W=>cut_hm (P:=Tryz.prog) (w:=W) 31 5 1 Tryz.underlying31 (by kernel_rfl) a7 (secsF g 2 255).length cap7 b.length b.length (Nat.le_refl _) (by omega)
 have hsb:=SlF.to 1 (fun _=>rfl) hu7 (m:=b.length) (by omega)
 rw [hb3] at hsb
 have hz6:=hF6.size
 generalize (secsF g 2 255).length=LL at *
 clear hu7 hb3
 have B8:=Blk.new w7 [.slice a7 b.length cap7] 31
 have hF8:=(Fr.refl [] w7).alloc (.cells #[.slice a7 b.length cap7] 31)
 have kO:=sumOf_calls w7.heap.size _ b _ B8 (SlF.fr0 hsb hF8)
 have hself:((sumN b:Int) == (sumN b:Int))=true:=by simp
 go_wp2_with fail
 refine kO.mono ?_
 rintro e w9 ⟨rfl,hf9⟩
 clear kO
 have hF9:=hF6.trans0 (hf7.trans0 (hF8.trans0 hf9))
 have hs9:=(SlF.fr0 hsb (hF8.trans0 hf9)).recap (Nat.le_refl b.length) (by unfold maxLen;omega)
 go_wp2
 go_ret2
 refine ⟨_,rfl,hs9,?_,?_,hF9⟩
 ·intro n cap hh
  cases hh
  have:=ho7 _ _ rfl
  omega
 ·intro k hk
  refine Nat.le_trans hz6 (hn7 k ?_)
  obtain ⟨p,rfl,hp⟩:=ownBlock_slice (a:=a7) (n:=b.length) (c:=b.length) hk
  simp [Value.ownBlock,hp]
def saNewNo (w:World) (e:Ending) (w':World):Prop:=e=.returned (.tuple #[.int .i64 (-1),.slice none 0 0,.int .i64 0])∧Fr [] w w'
theorem saNewest_no (h:StoW w sb sm nm v 512 f g) (h0:secF g 0=zBy 16) (h1:secF g 1=zBy 16):Calls Tryz.prog 168 #[.pointer (some ⟨sb,0,none⟩)] w (saNewNo w):=by
 have kC:=fun (k:Nat) (hk:k<2) X (hX:Fr [] w X)=>saCopied_no k (h.fr0 hX) hk (by rcases (by omega:k=0∨k=1) with rfl | rfl <;> assumption)
 go_enter Tryz.func168,Tryz.ntmps168
 go_wp2_with fail
 go_loopw [5,6,7,11] (fun at_ best b i wr=>∃k:Nat,k≤2∧i=.int .i64 (k:Int)∧at_=.int .i64 (-1)∧best=.int .i64 0∧b=.slice none 0 0∧Fr [] w wr) (fun _ _ _ i _=>2 - (intOf i).toNat)
 case atStart=>exact ⟨0,by omega,rfl,rfl,rfl,rfl,Fr.refl _ _⟩
 case round =>
 obtain ⟨k,hk,rfl,rfl,rfl,rfl,hF⟩:=hrel
 by_cases hlt:k<2
 case neg =>
  have hke:k=2:=by omega
  subst hke
  clear kC
  go_wp2
  go_ret3
  exact ⟨rfl,hF⟩
 have hlt':(k:Int)<2:=by omega
 go_wp2_with fail
 refine (kC k hlt _ hF).mono ?_
 rintro e w2 ⟨rfl,hf2⟩
 clear kC
 go_wp2
 go_roundw
 case rel=>exact ⟨k+1,by omega,by go_num,rfl,rfl,rfl,hF.trans0 hf2⟩
 case measure=>simp [intOf];omega
def saNewYes (w:World) (b:By) (e:Ending) (w':World):Prop:=∃u,e=.returned (.tuple #[.int .i64 0,u,.int .i64 1])∧SlY w' u b∧okV u∧(∀k,u.ownBlock=some k→w.heap.size≤k)∧Fr [] w w'
theorem saNewest_yes (b:By) (h:StoW w sb sm nm v 512 f g) (h0:savedG g b) (h1:secF g 1=zBy 16):Calls Tryz.prog 168 #[.pointer (some ⟨sb,0,none⟩)] w (saNewYes w b):=by
 have kC0:=saCopied_yes b h h0
 have kC1:∀X,Fr [] w X→Calls Tryz.prog 196 #[.pointer (some ⟨sb,0,none⟩),.int .i64 1] X _:=fun X (hX:Fr [] w X)=>saCopied_no 1 (h.fr0 hX) (by omega) h1
 go_enter Tryz.func168,Tryz.ntmps168
 go_wp2_with fail
 go_loopw [5,6,7,11] (fun at_ best b' i wr=>(i=.int .i64 0∧at_=.int .i64 (-1)∧best=.int .i64 0∧b'=.slice none 0 0∧wr=w)∨(∃k:Nat,1≤k∧k≤2∧i=.int .i64 (k:Int)∧at_=.int .i64 0∧best=.int .i64 1∧SlY wr b' b∧okV b'∧(∀k,b'.ownBlock=some k→w.heap.size≤k)∧Fr [] w wr)) (fun _ _ _ i _=>2 - (intOf i).toNat)
 case atStart=>exact .inl ⟨rfl,rfl,rfl,rfl,rfl⟩
 case round =>
 rcases hrel with ⟨rfl,rfl,rfl,rfl,rfl⟩ | ⟨k,hk1,hk,rfl,rfl,rfl,g1,g2,g3,hF⟩
 ·go_wp2_with fail
  refine kC0.mono ?_
  rintro e w2 ⟨u,rfl,g1,g2,g3,hf2⟩
  clear kC0 kC1
  go_wp2
  go_roundw
  case rel=>exact .inr ⟨1,by omega,by omega,rfl,rfl,rfl,g1,g2,g3,hf2⟩
  case measure=>simp [intOf]
 by_cases hlt:k<2
 case neg =>
  have hke:k=2:=by omega
  subst hke
  clear kC0 kC1
  go_wp2
  go_ret3
  exact ⟨_,rfl,g1,g2,g3,hF⟩
 have hke:k=1:=by omega
 subst hke
 go_wp2_with fail
 refine (kC1 _ hF).mono ?_
 rintro e w2 ⟨rfl,hf2⟩
 clear kC0 kC1
 go_wp2
 go_roundw
 case rel=>exact .inr ⟨2,by omega,by omega,rfl,rfl,rfl,SlF.fr0 g1 hf2,g2,g3,hF.trans0 hf2⟩
 case measure=>simp [intOf]
def saLoadPost (w:World) (b:By) (e:Ending) (w':World):Prop:=∃u,e=.returned (.tuple #[u,.int .i64 1,.int .i64 0])∧SlY w' u b∧okV u∧(∀k,u.ownBlock=some k→w.heap.size≤k)∧Fr [] w w'
theorem saLoad_calls (b:By) (h:StoW w sb sm nm v 512 f g) (h0:savedG g b) (h1:secF g 1=zBy 16):Calls Tryz.prog 119 #[.pointer (some ⟨sb,0,none⟩)] w (saLoadPost w b):=by
 have kN:=saNewest_yes b h h0 h1
 go_enter Tryz.func119,Tryz.ntmps119
 go_wp2_with fail
 refine kN.mono ?_
 rintro e w2 ⟨u,rfl,g1,g2,g3,hf2⟩
 clear kN
 go_wp2
 go_ret3
 exact ⟨_,rfl,g1,g2,g3,hf2⟩
end
end Go.Proofs.YtffnihooekbcnaaGreat
namespace Go.Proofs.YtffnihooekbcnaaGreat
open Go.RowKit Go.Maps
attribute [local go_sem] mapAt_alloc mapAt_setCell mapAt_drew mapAt_drewN cells_str store_str eql_str neq_str guard_str len_str
theorem conv_bytes2 (s:List UInt8) (w:World) (hs:s.length≤maxLen):∃c w',(convert 9 31 (strL s)).run Tryz.prog w=.ok (.slice (some ⟨w.heap.size,0,none⟩) s.length c) w'∧SlY w' (.slice (some ⟨w.heap.size,0,none⟩) s.length c) s∧Fr [] w w'∧w.heap.size<w'.heap.size:=by
 obtain ⟨v,w',hr,h1,_,h3⟩:=conv_bytes s w hs
 have hr2:=run_bytes_of_string (P:=Tryz.prog) w 9 31 5 ⟨s.toArray⟩ Tryz.underlying9 Tryz.underlying31 Tryz.underlying5
 have e:=Result.ok.inj (hr.symm.trans hr2)
 have hz:(ByteArray.mk s.toArray).size=s.length:=size_str s
 rw [hz] at e
 refine ⟨_,w',by rw [hr,e.1],by rw [←e.1];exact h1,h3,?_⟩
 rw [e.2]
 simp
theorem rdText_app (W:Nat) (s r:By) (h:s.length<256 ^ W):rdText (numL W s.length++s++r) 0 W=(r,0,s):=by
 unfold rdText
 rw [List.append_assoc,rdNum_app W s.length _ h]
 unfold rdTake
 simp
 omega
section
variable {w w':World}
theorem tx_calls (W:Nat) (hW:W=1∨W=2∨W=4) (rb vb:Nat) (s r:By) (w:World) (h:RdW w rb vb (numL W s.length++s++r) 0) (hs:s.length<256 ^ W) :
 Calls Tryz.prog 109 #[.pointer (some ⟨rb,0,none⟩),.int .i64 (W:Int)] w fun e w'=>e=.returned (strL s)∧RdW w' rb vb r 0∧Fr [rb] w w':=by
 have:=Text_calls W hW rb vb _ 0 w h
 rw [rdText_app W s r hs] at this
 exact this
theorem nu_calls (W n:Nat) (hW:W=1∨W=2∨W=4) (rb vb:Nat) (r:By) (w:World) (h:RdW w rb vb (numL W n++r) 0) (hn:n<256 ^ W) :
 Calls Tryz.prog 108 #[.pointer (some ⟨rb,0,none⟩),.int .i64 (W:Int)] w fun e w'=>e=.returned (.int .i64 (n:Int))∧RdW w' rb vb r 0∧Fr [rb] w w':=by
 have:=Num_calls W hW rb vb _ 0 w h
 rw [rdNum_app W n r hn] at this
 exact this
def lsDecPost (w:World) (bs:List Bk) (e:Ending) (w':World):Prop :=
 ∃lb o v ys,e=.returned (.tuple #[.pointer (some ⟨lb,0,none⟩),.int .i64 0])∧LstW w' lb o v ys∧ys.map (·.1)=bs∧(∀k,o k→w.heap.size≤k)∧Fr [] w w'
theorem lsDecode_calls (bv:Value) (bs:List Bk) (hb:SlY w bv (lsB bs)) (hok:okV bv) (hG:GoodL bs):Calls Tryz.prog 64 #[bv] w (lsDecPost w bs):=by
 obtain ⟨va,vcap,rfl,hvl,hvm,_⟩:=SlF.open hb
 have hfew:=hG.few
 have hlen:(lsB bs).length≤4294967296:=by
  have h1:=flatMap_le bkB 9253 bs (fun b hb=>by have:=(hG.one b hb).bytes;have:=(hG.one b hb).n;omega)
  have:=Nat.mul_le_mul_right 9253 hfew
  unfold lsB
  rw [List.length_append,numL_length]
  omega
 have kN:=lsNew_calls w
 unfold lsNewPost at kN
 have kR:=fun X (hX:Fr [] w X)=>NewReader_calls _ (lsB bs) X (SlF.fr0 hb hX) hok hlen
 have hsp:Hid (lsB bs=numL 1 bs.length++bs.flatMap bkB):=hidIt rfl
 clear hb
 generalize lsB bs=B at *
 go_enter Tryz.func64,Tryz.ntmps64
 go_wp2_with fail
 refine kN.mono ?_
 rintro e w1 ⟨lb,rfl,hlb,hL,hf1⟩
 clear kN
 go_wp2_with fail
 refine (kR _ hf1).mono ?_
 rintro e w2 ⟨rb,vb,rfl,hvb,hrb,hR,hf2⟩
 clear kR
 have hL2:=hL.fr0 hf2
 have hF2:=hf1.trans0 hf2
 have hz1:=hf1.size
 have hlbl:=hL.blk.lt
 rw [hsp.out] at hR
 have k1:Calls Tryz.prog 108 #[.pointer (some ⟨rb,0,none⟩),.int .i64 1] w2 _:=nu_calls 1 bs.length (by omega) rb vb _ w2 hR (by omega)
 go_wp2_with fail
 refine k1.mono ?_
 rintro e w3 ⟨rfl,hR3,hf3⟩
 clear k1 hR
 have hL3:=hL2.fr hf3 (fun k hk hh=>by have:=List.mem_singleton.1 hk;omega)
 have hF3:Fr [] w w3:=hF2.trans1 hf3 (by omega)
 clear hL hL2 hF2 hf1 hf2 hf3 hsp
 go_wp2_with fail
 go_loopw [12] (fun i wr=>∃(k:Nat) (o:Nat→Prop) (v:Value) (ys:List Bkv),k≤bs.length∧i=.int .i64 (k:Int)∧LstW wr lb o v ys∧Hid (ys.map (·.1)=bs.take k)∧RdW wr rb vb ((bs.drop k).flatMap bkB) 0∧(∀q,o q→w.heap.size≤q)∧(¬o rb∧¬o vb)∧Fr [] w wr) (fun i _=>bs.length - (intOf i).toNat)
 case atStart=>exact ⟨0,_,_,[],Nat.zero_le _,rfl,hL3,hidIt rfl,hR3,fun q hq=>by omega,⟨by omega,by omega⟩,hF3⟩
 case round =>
 clear hL3 hR3 hF3
 obtain ⟨k,o,v,ys,hk,rfl,hL,hys,hR,ho,hnr,hF⟩:=hrel
 by_cases hlt:k<bs.length
 case neg =>
  have hlt':¬(k:Int)<(bs.length:Int):=by omega
  have hke:k=bs.length:=by omega
  rw [hke,List.drop_length] at hR
  have hys2:Hid (ys.map (·.1)=bs):=hidIt (by rw [hys.out,hke,List.take_length])
  have kE:=End_calls rb vb _ 0 wr hR
  have hrd:rdEnd (List.flatMap bkB []) 0=0:=by unfold rdEnd;rfl
  rw [hrd] at kE
  clear hke hys hrd
  go_wp2_with fail
  refine kE.mono ?_
  rintro e w4 ⟨rfl,rfl⟩
  clear kE
  go_wp2
  go_ret2
  exact ⟨lb,o,v,ys,rfl,hL,hys2.out,ho,hF⟩
 obtain ⟨b,hbk⟩:∃b,Hid (bs[k]? = some b):=⟨bs[k],hidIt (List.getElem?_eq_getElem hlt)⟩
 have hbm:b∈bs:=List.mem_of_getElem? hbk.out
 have hgb:=hG.one b hbm
 have hdk:Hid ((bs.drop k).flatMap bkB=bkB b++(bs.drop (k+1)).flatMap bkB):=hidIt (by
  rw [List.drop_eq_getElem_cons hlt,List.flatMap_cons]
  have:=hbk.out
  rw [List.getElem?_eq_getElem hlt] at this
  injection this with this
  rw [this])
 have htk:Hid (bs.take (k+1)=bs.take k++[b]):=hidIt (by
  rw [List.take_add_one,hbk.out]
  rfl)
 have hys0:=hys.out
 have hyl:ys.length=k:=by
  have:=congrArg List.length hys0
  rw [List.length_map,List.length_take] at this
  omega
 have hget:∀j,j<k→∀c,bs[j]? = some c→(ys.getD j zBv).1=c:=fun j hj c hc=>by
  have h1:(ys.map (·.1))[j]? = some c:=by rw [hys0,List.getElem?_take,if_pos hj];exact hc
  rw [List.getElem?_map] at h1
  obtain ⟨z,hz,rfl⟩:=Option.map_eq_some_iff.1 h1
  rw [List.getD_eq_getElem?_getD,hz]
  rfl
 have hfn:Hid (fdI ys b.nm=none):=hidIt (fdI_no fun y hy=>by
  have h1:y.1∈bs.take k:=by rw [←hys0];exact List.mem_map.2 ⟨y,hy,rfl⟩
  obtain ⟨j,hj,he⟩:=List.getElem_of_mem h1
  have hjk:j<k:=by rw [List.length_take] at hj;omega
  rw [List.getElem_take] at he
  have h2:=List.pairwise_iff_getElem.1 hG.apart j k (by omega) hlt hjk
  have h3:=hbk.out
  rw [List.getElem?_eq_getElem hlt] at h3
  injection h3 with h3
  rw [he,h3] at h2
  exact h2)
 have hfp:Hid (b.pa≠[]→∃k0,fdI ys b.pa=some k0):=hidIt (fun h=>by
  obtain ⟨j,c,hj,hc,he⟩:=hG.par k b hbk.out h
  cases e:fdI ys b.pa with
  | some k0=>exact ⟨k0,rfl⟩
  | none =>
    have h1:=fdI_none e (ys.getD j zBv) (getD_memB (by omega) zBv)
    rw [hget j hj c hc] at h1
    exact absurd he h1)
 have hnml:=okName_len hgb.nm
 have hpal:=hgb.pa
 have hn256:=hgb.n
 have hplen:=hgb.plen
 have hins:=hgb.ins
 obtain ⟨R,hRR⟩:∃R,Hid ((bs.drop (k+1)).flatMap bkB=R):=⟨_,hidIt rfl⟩
 have hR0:RdW wr rb vb (numL 1 b.nm.length++b.nm++(numL 1 b.pa.length++b.pa++(numL 1 1++(numL 2 b.n++(numL 2 b.ps.length++(b.ps.flatMap pcB++R)))))) 0:=by
  rw [hdk.out,hRR.out,bkB_split] at hR
  simpa only [List.append_assoc] using hR
 clear hR hdk hget hys0
 have kx1:=fun X hX=>tx_calls 1 (by omega) rb vb b.nm (numL 1 b.pa.length++b.pa++(numL 1 1++(numL 2 b.n++(numL 2 b.ps.length++(b.ps.flatMap pcB++R))))) X hX (by omega)
 have kx2:=fun X hX=>tx_calls 1 (by omega) rb vb b.pa (numL 1 1++(numL 2 b.n++(numL 2 b.ps.length++(b.ps.flatMap pcB++R)))) X hX (by omega)
 have k1:Calls Tryz.prog 109 #[.pointer (some ⟨rb,0,none⟩),.int .i64 1] wr _:=kx1 wr hR0
 have k2:∀X,RdW X rb vb _ 0→Calls Tryz.prog 109 #[.pointer (some ⟨rb,0,none⟩),.int .i64 1] X _:=fun X hX=>kx2 X hX
 obtain ⟨N,hN⟩:∃S,Hid (strL b.nm=Value.string S):=⟨_,hidIt rfl⟩
 obtain ⟨Q,hQ⟩:∃S,Hid (strL b.pa=Value.string S):=⟨_,hidIt rfl⟩
 rw [hN.out] at k1
 rw [hQ.out] at k2
 clear kx1 kx2
 go_wp2_with fail
 refine k1.mono ?_
 rintro e w4 ⟨rfl,hR4,hf4⟩
 clear k1
 go_wp2_with fail
 refine (k2 _ hR4).mono ?_
 rintro e w5 ⟨rfl,hR5,hf5⟩
 clear k2
 have k3:Calls Tryz.prog 108 #[.pointer (some ⟨rb,0,none⟩),.int .i64 1] w5 _:=nu_calls 1 1 (by omega) rb vb _ w5 hR5 (by omega)
 go_wp2_with fail
 refine k3.mono ?_
 rintro e w6 ⟨rfl,hR6,hf6⟩
 clear k3
 have k4:Calls Tryz.prog 108 #[.pointer (some ⟨rb,0,none⟩),.int .i64 2] w6 _:=nu_calls 2 b.n (by omega) rb vb _ w6 hR6 (by omega)
 go_wp2_with fail
 refine k4.mono ?_
 rintro e w7 ⟨rfl,hR7,hf7⟩
 clear k4
 have hf47:Fr [rb] wr w7:=((hf4.trans' hf5).trans' hf6).trans' hf7
 go_wp2_with fail
 obtain ⟨tb,htb⟩:∃z,Hid (w7.heap.size=z):=⟨_,hidIt rfl⟩
 have BT:=Blk.new w7 [.string N,.string Q,.int .i64 1,.int .i64 (b.n:Int),.slice none 0 0] 60
 have hfa:=(Fr.refl [] w7).alloc (.cells #[.string N,.string Q,.int .i64 1,.int .i64 (b.n:Int),.slice none 0 0] 60)
 have k5:Calls Tryz.prog 108 #[.pointer (some ⟨rb,0,none⟩),.int .i64 2] (w7.alloc (.cells #[.string N,.string Q,.int .i64 1,.int .i64 (b.n:Int),.slice none 0 0] 60)) _:=nu_calls 2 b.ps.length (by omega) rb vb _ _ (hR7.fr0 hfa) (by omega)
 rw [htb.out] at BT
 have hrbl:=hR7.lt
 have hrbt:rb<tb:=by have:=htb.out;omega
 rw [htb.out]
 refine k5.mono ?_
 rintro e w8 ⟨rfl,hR8,hf8⟩
 clear k5
 have BT8:=BT.fr hf8 (by simp;omega)
 have hf48:Fr [rb] wr w8:=(hf47.trans0 hfa).trans' hf8
 have hzt:tb<w8.heap.size:=BT8.lt
 have hlow:=hL.low
 have hztr:wr.heap.size≤tb:=by have:=hf47.size;have:=htb.out;omega
 clear hR0 hR4 hR5 hR6 hR7 hf4 hf5 hf6 hf7 hf47 hfa BT
 generalize wr=wo at *
 go_wp2_with fail
 go_loopw [25] (fun i wr=>∃(j:Nat) (xs:List Pcv) (u:Value),j≤b.ps.length∧i=.int .i64 (j:Int)∧MadP wr w8.heap.size u xs∧Hid (unP xs=b.ps.take j)∧Blk wr tb [.string N,.string Q,.int .i64 1,.int .i64 (b.n:Int),u] 60∧RdW wr rb vb ((b.ps.drop j).flatMap pcB++R) 0∧Fr [rb,tb] w8 wr) (fun i _=>b.ps.length - (intOf i).toNat)
 case atStart=>exact ⟨0,[],.slice none 0 0,Nat.zero_le _,rfl,MadP.nil _ _,hidIt rfl,BT8,hR8,Fr.refl _ _⟩
 case round =>
 clear BT8 hR8
 obtain ⟨j,xs,u,hj,rfl,hM,hxs,BT,hR,hFq⟩:=hrel
 by_cases hltj:j<b.ps.length
 case neg =>
  have hje:j=b.ps.length:=by omega
  have hltj':¬(j:Int)<(b.ps.length:Int):=by omega
  have hRq:RdW wr rb vb R 0:=by
   rw [hje,List.drop_length] at hR
   exact hR
  have hxs2:Hid (b.ps=unP xs):=hidIt (by rw [hxs.out,hje,List.take_length])
  have hfo:Fr [rb,tb] wo wr:=(hf48.mono (M:=[rb,tb]) (fun x hx _=>by simp at hx ⊢;exact .inl hx)).trans' hFq
  have hLq:=hL.fr hfo (fun q hq hh=>by
   simp at hq
   rcases hq with rfl | rfl
   ·exact hnr.1 hh
   ·have:=hlow _ hh;omega)
  have hFq0:Fr [] w wr:=hF.trans hfo (fun q hq hl=>by
   simp at hq
   have:=hF.size
   omega)
  have hBk:BakW wr (fun q=>w8.heap.size≤q∧q<wr.heap.size) (b,u,xs):=⟨hM.pcs fun q h1 h2=>⟨h1,h2⟩,hxs2.out⟩
  have kA:Calls Tryz.prog 99 #[.pointer (some ⟨lb,0,none⟩),bvV (b,u,xs)] wr (lsAddPost wr lb o ys (b,u,xs)):=by
   by_cases hpe:b.pa=[]
   ·exact lsAdd_root (b,u,xs) hLq hBk hgb hfn.out hpe (by omega)
   ·obtain ⟨k0,hk0⟩:=hfp.out hpe
    exact lsAdd_sub (b,u,xs) hLq hBk hgb hfn.out hpe k0 hk0 (by omega)
  have kE:=Err_calls rb vb R 0 wr hRq
  obtain ⟨ua,uc,rfl,_⟩:=Sl.of_owns hM.row
  simp only [bvV] at kA
  rw [hN.out,hQ.out] at kA
  have cT:=BT.cell
  clear hje hM hBk hLq hL hR hFq hfo hxs BT
  go_wp2_with fail
  refine kE.mono ?_
  rintro e w9 ⟨rfl,hw9⟩
  rw [←hw9]
  clear kE hw9 w9
  go_wp2_with fail
  refine kA.mono ?_
  rintro e w9 ⟨rfl,o',v',y',hL',hy',hSt⟩
  clear kA cT
  obtain ⟨M,hfM,hMo⟩:=hSt.fr
  have hrl:=hRq.lt
  have hnin:∀q,¬o q→q<wr.heap.size→q ∉ M:=fun q h1 h2 hm=>h1 (hMo q hm h2)
  have hR9:=hRq.fr hfM (hnin rb hnr.1 hrl) (hnin vb hnr.2 (by omega))
  have hF9:Fr [] w w9:=hFq0.trans hfM (fun q hq hl=>by
   have h1:=hMo q hq (Nat.lt_of_lt_of_le hl hFq0.size)
   have:=ho q h1
   omega)
  have hzq:=hFq0.size
  have ho9:∀q,o' q→w.heap.size≤q:=fun q hq=>by
   rcases hSt.new q hq with h9 | h9
   ·exact ho q h9
   ·omega
  have hn9:¬o' rb∧¬o' vb:=⟨hSt.out hnr.1 hrl,hSt.out hnr.2 (by omega)⟩
  have hm9:Hid ((ys++[y']).map (·.1)=bs.take (k+1)):=hidIt (by
   rw [htk.out,List.map_append,hys.out]
   simp [hy'])
  have hfin:=hidIt (And.intro hL' (And.intro hR9 hF9))
  clear hL' hR9 hF9 hSt hfM hMo hRq hFq0 hys htk
  go_wp2
  go_roundw
  case rel=>exact ⟨k+1,o',v',ys++[y'],by omega,by go_num,hfin.out.1,hm9,by rw [hRR.out];exact hfin.out.2.1,ho9,hn9,hfin.out.2.2⟩
  case measure=>simp [intOf];omega
 obtain ⟨p,hpj⟩:∃p,Hid (b.ps[j]? = some p):=⟨b.ps[j],hidIt (List.getElem?_eq_getElem hltj)⟩
 have hpm:p∈b.ps:=List.mem_of_getElem? hpj.out
 obtain ⟨hpc,hpl⟩:=hins p hpm
 have hdj:Hid ((b.ps.drop j).flatMap pcB++R=numL 2 p.1++(numL 2 p.2.length++p.2++((b.ps.drop (j+1)).flatMap pcB++R))):=hidIt (by
  rw [List.drop_eq_getElem_cons hltj,List.flatMap_cons]
  have:=hpj.out
  rw [List.getElem?_eq_getElem hltj] at this
  injection this with this
  rw [this]
  unfold pcB
  simp)
 have htj:Hid (b.ps.take (j+1)=b.ps.take j++[p]):=hidIt (by
  rw [List.take_add_one,hpj.out]
  rfl)
 have hxl:xs.length=j:=by
  have:=congrArg List.length hxs.out
  rw [unP_len,List.length_take] at this
  omega
 have hxlb:xs.length≤256:=by omega
 clear hxl
 rw [hdj.out] at hR
 have hRd:=hR.fr0 ((Fr.refl [] wr).drew)
 have k1:Calls Tryz.prog 108 #[.pointer (some ⟨rb,0,none⟩),.int .i64 2] wr.drew _:=nu_calls 2 p.1 (by omega) rb vb _ _ hRd (by omega)
 have k2:∀X,RdW X rb vb _ 0→Calls Tryz.prog 109 #[.pointer (some ⟨rb,0,none⟩),.int .i64 2] X _:=fun X hX=>tx_calls 2 (by omega) rb vb p.2 ((b.ps.drop (j+1)).flatMap pcB++R) X hX (by rw [hpl];decide)
 obtain ⟨S2,hS2⟩:∃S,Hid (strL p.2=Value.string S):=⟨_,hidIt rfl⟩
 rw [hS2.out] at k2
 have hMd:=hM.fr0 ((Fr.refl [] wr).drew)
 have BTd:=BT.drew
 have hub:=own_base hM.row
 have hul:=hM.row.lt
 have htu:tb ∉ u.ownBlock.toList:=fun hm=>by have:=hub tb (by simpa using hm);omega
 have hru:u.ownBlock≠some rb:=fun e=>by have:=hub rb e;omega
 have hzq:=hFq.size
 have nS:tb ∉ rb :: u.ownBlock.toList:=fun hm=>by
  rcases List.mem_cons.1 hm with h9 | h9
  ·omega
  ·exact htu h9
 clear hR hdj
 go_wp2_with fail
 refine wp_region_Z 11 (Fr (rb :: u.ownBlock.toList) wr.drew) [(true,0),(true,1),(true,2),(true,4),(false,3),(false,5),(false,6),(true,7),(false,8),(false,9),(true,10)] (by as_aux_lemma=>kernel_rfl) (by as_aux_lemma=>kernel_rfl) (Fr.refl _ _) ?_
 simp only [inOrder,jD,jE,jF,jG]
 iterate 1 (refine wpG_pure fun K hK=>?_;go_simp;refine hK _ ?_;clear hK K)
 refine wpG_val (u) (by first | rfl | go_simp) (fun X hX=>by have cc:=(BTd.fr hX nS).cell;go_simp) ?_
 simp only [Act.put,jA,jB,jC]
 iterate 2 (refine wpG_pure fun K hK=>?_;go_simp;refine hK _ ?_;clear hK K)
 refine wpG_one fun K hK=>?_
 go_simp
 refine (k1).mono ?_
 rintro e x4 ⟨rfl,hR4,hf4⟩
 refine hK _ _ (hf4.mono (fun q hq _=>by rw [List.mem_singleton.1 hq];exact List.mem_cons_self)) ?_
 clear hK K
 refine wpG_one fun K hK=>?_
 go_simp
 refine (k2 _ hR4).mono ?_
 rintro e x5 ⟨rfl,hR5,hf5⟩
 have hf45:Fr [rb] wr.drew x5:=hf4.trans' hf5
 refine hK _ _ (hf45.mono (fun q hq _=>by rw [List.mem_singleton.1 hq];exact List.mem_cons_self)) ?_
 clear hK K
 obtain ⟨cv,x6,hcv,hs6,hf6,hl6⟩:=conv_bytes2 p.2 x5 (by unfold maxLen;omega)
 rw [hS2.out] at hcv
 refine wpG_one fun K hK=>?_
 go_simp
 have hf46:Fr [rb] wr.drew x6:=hf45.trans0 hf6
 refine hK _ _ (hf46.mono (fun q hq _=>by rw [List.mem_singleton.1 hq];exact List.mem_cons_self)) ?_
 clear hK K
 rw [hpl] at hs6
 iterate 1 (refine wpG_pure fun K hK=>?_;go_simp;refine hK _ ?_;clear hK K)
 refine wpG_one fun K hK=>?_
 go_simp
 refine hK _ _ ((hf46.alloc (.cells #[.int .i64 (p.1:Int),.slice (some ⟨x5.heap.size,0,none⟩) 32 cv] 71)).mono (fun q hq _=>by rw [List.mem_singleton.1 hq];exact List.mem_cons_self)) ?_
 clear hK K
 have hzd:wr.drew.heap.size=wr.heap.size:=rfl
 have hz45:=hf45.size
 have hz46:=hf46.size
 have hM6:MadP x6 w8.heap.size u xs:=by
  refine ⟨owns_fr hMd.row hf46 fun q hq hm=>hru (by rw [←List.mem_singleton.1 hm];exact hq),fun x hx=>?_⟩
  obtain ⟨g1,g2,g3⟩:=hMd.byt x hx
  refine ⟨SlF.fr g1 hf46 fun q hq hm=>?_,fun q hq=>⟨(g2 q hq).1,Nat.lt_of_lt_of_le (g2 q hq).2.1 hf46.size,(g2 q hq).2.2⟩,g3⟩
  have:=(g2 q hq).1
  have:=List.mem_singleton.1 hm
  omega
 have B6:=BTd.fr hf46 (by simp;omega)
 have hR6:=hR5.fr0 hf6
 refine wpG_list rfl (fun _ _ h=>h) fun K hK=>?_
 refine wpList_append1 58 71 _ 2 32 Tryz.underlying58 infoPc rfl (by decide) (by decide) rfl _ _ rfl w8.heap.size u xs.length _ rfl (hM6.row.alloc _) [.int .i64 (p.1:Int),.slice (some ⟨x5.heap.size,0,none⟩) 32 cv] rfl (by intro y hy;simp at hy;rcases hy with rfl | rfl <;> rfl) x6.heap.size rfl (Blk.new' rfl [_,_] _) (by omega) (by simp;omega) ?_
 intro v' x7 hown7 hgrow7 hloc7
 have hf67:Fr u.ownBlock.toList x6 x7:=((Fr.refl [] x6).alloc _).weak.trans' (Fr.of_grown hgrow7)
 have hf47:Fr (rb :: u.ownBlock.toList) wr.drew x7:=(hf46.mono (fun q hq _=>by rw [List.mem_singleton.1 hq];exact List.mem_cons_self)).trans' (hf67.mono (fun q hq _=>List.mem_cons_of_mem _ hq))
 refine hK _ (fun _ h=>h) _ _ hf47 ?_
 clear hK K
 have hl7:∀q,v'.ownBlock=some q→u.ownBlock=some q∨x6.heap.size≤q:=fun q hq=>by
  rcases hloc7 with h | h
  ·left;rw [←h,hq]
  ·right;rw [h] at hq;injection hq with hq;simp at hq;omega
 have hM7:=hM6.more (x:=(p.1,p.2,.slice (some ⟨x5.heap.size,0,none⟩) 32 cv)) hown7 hf67 hl7 (SlF.fr hs6 hf67 fun q hq hm=>by
  have e:x5.heap.size=q:=by simpa [Value.ownBlock] using hq
  have:=hul q (by simpa using hm)
  omega) (fun n c h=>by cases h) (fun q hq=>by
  have e:x5.heap.size=q:=by simpa [Value.ownBlock] using hq
  have:=hf67.size
  refine ⟨by omega,by omega,fun e2=>?_⟩
  rcases hl7 q e2 with h9 | h9
  ·have:=(hul q h9).2;omega
  ·omega)
 have B7:=B6.fr hf67 htu
 have hR7:=hR6.fr hf67 (fun hm=>hru (by simpa using hm)) (fun hm=>by have:=hub vb (by simpa using hm);omega)
 have c7:=B7.cell
 have f7:=B7.frozen
 have l7:=B7.lt
 have hub7:=own_base hM7.row
 obtain ⟨a7,cc7,rfl,_⟩:=Sl.of_owns hown7
 iterate 1 (refine wpG_pure fun K hK=>?_;go_simp;refine hK _ ?_;clear hK K)
 refine wpG_last fun K hK=>?_
 go_simp
 refine hK _ _ ?_
 clear hK K
 have hs8:Fr [tb] x7 (x7.setCell ⟨tb,4,none⟩ (.slice a7 (xs.length+1) cc7)):=(Fr.refl _ x7).setCell (.inl (by simp)) _
 have B8:=B7.setCell 4 (.slice a7 (xs.length+1) cc7)
 have hM8:MadP (x7.setCell ⟨tb,4,none⟩ (.slice a7 (xs.length+1) cc7)) w8.heap.size (.slice a7 (xs.length+1) cc7) (xs++[(p.1,p.2,.slice (some ⟨x5.heap.size,0,none⟩) 32 cv)]):=by
  have hnb:∀q,w8.heap.size≤q→q ∉ [tb]:=fun q h1 hm=>by have:=List.mem_singleton.1 hm;omega
  exact ⟨owns_fr hM7.row hs8 fun q hq=>hnb q (hub7 q hq),fun x hx=>⟨SlF.fr (hM7.byt x hx).1 hs8 fun q hq=>hnb q ((hM7.byt x hx).2.1 q hq).1,fun q hq=>by have:=(hM7.byt x hx).2.1 q hq;exact ⟨this.1,Nat.lt_of_lt_of_le this.2.1 hs8.size,this.2.2⟩,(hM7.byt x hx).2.2⟩⟩
 have hR8:=hR7.fr hs8 (by simp;omega) (by simp;omega)
 have hF8:Fr [rb,tb] w8 (x7.setCell ⟨tb,4,none⟩ (.slice a7 (xs.length+1) cc7)):=((hFq.drew).trans hf47 (fun q hq hl=>by
  rcases List.mem_cons.1 hq with h9 | h9
  ·simp [h9]
  ·have:=hub q (by simpa using h9);omega)).trans' (hs8.mono (fun q hq _=>by simp at hq ⊢;exact .inr hq))
 have hx8:Hid (unP (xs++[(p.1,p.2,.slice (some ⟨x5.heap.size,0,none⟩) 32 cv)])=b.ps.take (j+1)):=hidIt (by
  rw [htj.out,←hxs.out]
  unfold unP
  rw [List.map_append]
  rfl)
 have hfin:=hidIt (And.intro hM8 (And.intro B8 (And.intro hR8 hF8)))
 clear hM8 B8 hR8 hF8 hs8 hM7 B7 hR7 c7 f7 l7 hown7 hgrow7 hloc7 hf67 hf47 hM6 B6 hR6 hs6 hMd BTd hM BT hxs htj hRd hR4 hR5 hf4 hf5 hf6 hFq k1 k2
 go_wp2
 go_roundw
 case rel=>exact ⟨j+1,_,_,by omega,by go_num,hfin.out.1,hx8,hfin.out.2.1,hfin.out.2.2.1,hfin.out.2.2.2⟩
 case measure=>simp [intOf];omega
end
end Go.Proofs.YtffnihooekbcnaaGreat
