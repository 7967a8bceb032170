/-
  An image, in plain Lean: the steps keep what holds always.
-/
import Derived.Test.YtffnihooekbcnaaGreatG03
import Derived.Laws.OwnMore
set_option maxRecDepth 100000
set_option maxHeartbeats 6400000
namespace Go.Proofs.YtffnihooekbcnaaGreat
open Go.RowKit
theorem mem_set_at {l:List Slt} {c:Nat} {s x:Slt} (h:x∈l.set c s):x=s∨∃c',c'<l.length∧c'≠c∧x=l.getD c' zS:=by
 obtain ⟨c',hc',he⟩:=List.mem_iff_getElem.1 h
 have hl:c'<l.length:=by simpa using hc'
 by_cases e:c'=c
 ·subst e
  left
  rw [←he,List.getElem_set_self]
 ·right
  refine ⟨c',hl,e,?_⟩
  rw [←he,List.getElem_set_ne (fun h=>e h.symm),List.getD_eq_getElem?_getD,List.getElem?_eq_getElem hl]
  rfl
theorem swap_ok {M M':Img} (h:OkI M) {c:Nat} (hc:c<M.t.length) {s:Slt} (hs:rightS s=true) (hfr:s.1=1→ng M (hst s)=0∧s.2.2=true)
 (hB:M'.B=M.B) (ht:M'.t=M.t.set c s) (hS:M'.s=M.s) (hn:M'.n.length=M.n.length)
 (hcnt:∀k,ng M' k+(if isH k (M.t.getD c zS)=true then 1 else 0)=ng M k+(if isH k s=true then 1 else 0))
 (hgone:∀k,ng M' k=0→M'.d k=none) (hdat:∀k,0<ng M' k→∃b,M'.d k=some b∧b.length=M.z):OkI M':=by
 have hz:M'.z=M.z:=by unfold Img.z;rw [hB]
 have hct:=fun k=>cntT_set hc s k
 refine ⟨⟨hB ▸ h.B,by rw [ht,List.length_set];exact h.len,hn ▸ h.room,?_,hS ▸ h.rights,hS ▸ h.lens,?_,?_,hS ▸ h.ones,hgone,by rw [hz];exact hdat,hS ▸ h.names,hS ▸ h.nodup,hS ▸ h.few⟩,?_⟩
 ·intro x hx
  rw [ht] at hx
  rcases mem_set_at hx with rfl | ⟨c',h1,_,rfl⟩
  ·exact hs
  ·exact h.right _ (getD_memS h1)
 ·intro k
  have h1:=hcnt k
  have h2:=hct k
  have h3:=h.cnt k
  unfold refs at *
  rw [ht,hS]
  omega
 ·intro k
  rw [ht]
  have h2:=hct k
  have h3:=h.one k
  by_cases e:isH k s=true
  ·have h4:=(isH_iff.1 e)
   have h5:=(hfr h4.1).1
   rw [h4.2,h.cnt] at h5
   unfold refs at h5
   rw [if_pos e] at h2
   omega
  ·rw [if_neg e] at h2
   omega
 ·intro x hx h1
  rw [ht] at hx
  have h2:=hcnt (hst x)
  rcases mem_set_at hx with rfl | ⟨c',h3,h4,rfl⟩
  ·obtain ⟨h5,h6⟩:=hfr h1
   rw [h6]
   rw [h5,if_pos (isH_iff.2 ⟨h1,rfl⟩)] at h2
   have:¬isH (hst x) (M.t.getD c zS)=true:=fun e=>by
    obtain ⟨e1,e2⟩:=isH_iff.1 e
    have:=h.live (getD_memS hc) e1
    rw [e2] at this
    omega
   rw [if_neg this] at h2
   exact (decide_eq_true h2).symm
  ·have hl:=h.live (getD_memS h3) h1
   have n1:¬isH (hst (M.t.getD c' zS)) s=true:=fun e=>by
    obtain ⟨e1,e2⟩:=isH_iff.1 e
    have:=(hfr e1).1
    rw [e2] at this
    omega
   have n2:¬isH (hst (M.t.getD c' zS)) (M.t.getD c zS)=true:=fun e=>h4 (one_at (h.one _) h3 hc (isH_iff.2 ⟨h1,rfl⟩) e)
   rw [if_neg n1,if_neg n2] at h2
   rw [h.own _ (getD_memS h3) h1]
   have h2':ng M' (hst (M.t.getD c' zS))=ng M (hst (M.t.getD c' zS)):=h2
   rw [h2']
theorem set_len {M:Img} {c:Nat} {s:Slt}:(setI M c s).t.length=M.t.length∧(setI M c s).B=M.B∧(setI M c s).s=M.s∧(setI M c s).n.length=M.n.length∧(setI M c s).t=M.t.set c s:=by
 have:=less_keep { M with t:=M.t.set c s } (M.t.getD c zS)
 unfold setI
 refine ⟨?_,this.1,this.2.2.1,this.2.2.2,this.2.1⟩
 rw [this.2.1]
 simp
theorem set_ng {M:Img} (h:OkJ M) {c:Nat} (hc:c<M.t.length) (s:Slt) (k:Nat):ng (setI M c s) k=ng M k - (if isH k (M.t.getD c zS)=true then 1 else 0) :=
 less_n (M:={ M with t:=M.t.set c s }) (fun h1=>ng_lt (M:=M) (h.live (getD_memS hc) h1)) k
theorem set_d {M:Img} {c:Nat} {s:Slt} (k:Nat):(setI M c s).d k=if isH k (M.t.getD c zS)=true∧ng M k - 1=0 then none else M.d k:=less_d (M:={ M with t:=M.t.set c s }) k
theorem old_pos {M:Img} (h:OkJ M) {c:Nat} (hc:c<M.t.length) {k:Nat} (e:isH k (M.t.getD c zS)=true):0<ng M k:=by
 obtain ⟨e1,e2⟩:=isH_iff.1 e
 have:=h.live (getD_memS hc) e1
 rwa [e2] at this
theorem set_ok {M:Img} (h:OkI M) {c:Nat} (hc:c<M.t.length) {s:Slt} (hs:rightS s=true) (h1:s.1≠1):OkI (setI M c s):=by
 have hn:=set_ng h.toOkJ hc s
 refine swap_ok h hc hs (fun e=>absurd e h1) set_len.2.1 set_len.2.2.2.2 set_len.2.2.1 set_len.2.2.2.1 (fun k=>?_) (fun k hk=>?_) (fun k hk=>?_)
 ·rw [hn,isH_ne h1]
  by_cases e:isH k (M.t.getD c zS)=true
  ·have:=old_pos h.toOkJ hc e
   simp only [e,if_true,Bool.false_eq_true,if_false]
   omega
  ·simp only [e,Bool.false_eq_true,if_false,Nat.sub_zero]
 ·rw [set_d]
  rw [hn] at hk
  by_cases e:isH k (M.t.getD c zS)=true
  ·rw [if_pos e] at hk
   rw [if_pos ⟨e,hk⟩]
  ·rw [if_neg e] at hk
   rw [if_neg (fun hh=>e hh.1)]
   exact h.gone k hk
 ·rw [set_d]
  rw [hn] at hk
  by_cases e:isH k (M.t.getD c zS)=true
  ·rw [if_pos e] at hk
   rw [if_neg (by omega)]
   exact h.dat k (by omega)
  ·rw [if_neg e] at hk
   rw [if_neg (fun hh=>e hh.1)]
   exact h.dat k (by omega)
theorem set_dlive {M:Img} (h:OkJ M) {c:Nat} (hc:c<M.t.length) {s:Slt} {k:Nat} (hk:0<ng (setI M c s) k):(setI M c s).d k=M.d k:=by
 rw [set_ng h hc] at hk
 rw [set_d]
 by_cases e:isH k (M.t.getD c zS)=true
 ·rw [if_pos e] at hk
  rw [if_neg (by omega)]
 ·rw [if_neg (fun hh=>e hh.1)]
theorem con_eq {M M':Img} {x:Slt} (hB:M'.B=M.B) (h:x.1=1→M'.d (hst x)=M.d (hst x)):conS M' x=conS M x:=by
 unfold conS Img.z
 split
 ·rename_i h1;rw [h h1]
 ·rw [hB]
theorem getD_setS {l:List Slt} {c:Nat} (hc:c<l.length) (s:Slt) (c':Nat):(l.set c s).getD c' zS=if c'=c then s else l.getD c' zS:=getD_set l c c' s hc
theorem getD_outS {l:List Slt} {c:Nat} (hc:¬c<l.length):l.getD c zS=zS:=by
 rw [List.getD_eq_getElem?_getD,List.getElem?_eq_none (by omega)];rfl
theorem set_con {M:Img} (h:OkI M) {c:Nat} (hc:c<M.t.length) {s:Slt} (hs:rightS s=true) (h1:s.1≠1) (c':Nat):conC (setI M c s) c'=if c'=c then zBy M.z else conC M c':=by
 have h':=set_ok h hc hs h1
 unfold conC
 rw [set_len.2.2.2.2,getD_setS hc]
 split
 ·unfold conS
  rw [if_neg h1]
  unfold Img.z
  rw [set_len.2.1]
 ·rename_i e
  by_cases hc':c'<M.t.length
  ·refine con_eq set_len.2.1 fun hx=>set_dlive h.toOkJ hc ?_
   refine h'.live (s:=M.t.getD c' zS) ?_ hx
   have:=getD_memS (l:=(setI M c s).t) (c:=c') (by rw [set_len.1];exact hc')
   rw [set_len.2.2.2.2] at this ⊢
   rwa [getD_setS hc,if_neg e] at this
  ·rw [getD_outS hc']
   exact con_eq set_len.2.1 fun hx=>by simp [zS] at hx
theorem set_snap {M:Img} (h:OkI M) {c:Nat} (hc:c<M.t.length) {s:Slt} (hs:rightS s=true) (h1:s.1≠1) {p:By × List Slt} (hp:p∈M.s) {x:Slt} (hx:x∈p.2):conS (setI M c s) x=conS M x:=by
 have h':=set_ok h hc hs h1
 exact con_eq set_len.2.1 fun hx1=>set_dlive h.toOkJ hc (h'.lives (by rw [set_len.2.2.1];exact hp) hx hx1)
theorem free_set {n:List Nat} {k x:Nat} (hk:k<n.length):freeN (n.set k x)+(if n.getD k 0=0 then 1 else 0)=freeN n+(if x=0 then 1 else 0):=by
 unfold freeN
 rw [List.countP_set hk]
 have hg:n.getD k 0=n[k]:=by rw [List.getD_eq_getElem?_getD,List.getElem?_eq_getElem hk];rfl
 rw [hg]
 have hpos:n[k]=0→0<n.countP (fun x=>decide (x=0)):=fun hp=>List.countP_pos_iff.2 ⟨_,List.getElem_mem hk,by simp [hp]⟩
 by_cases h1:n[k]=0
 ·have:=hpos h1
  simp only [h1,decide_true,if_true,decide_eq_true_eq]
  omega
 ·simp only [h1,decide_false,Bool.false_eq_true,if_false,decide_eq_true_eq]
  omega
theorem less_free {M:Img} {s:Slt} (hs:s.1=1→0<ng M (hst s)):freeN M.n≤freeN (lessI M s).n:=by
 unfold lessI
 split
 ·rename_i h1
  have h2:=hs h1
  have:=free_set (n:=M.n) (k:=hst s) (x:=ng M (hst s) - 1) (ng_lt h2)
  rw [if_neg (by unfold ng at h2;omega)] at this
  simp only
  omega
 ·exact Nat.le_refl _
theorem set_free {M:Img} (h:OkJ M) {c:Nat} (hc:c<M.t.length) {s:Slt}:freeN M.n≤freeN (setI M c s).n :=
 less_free (M:={ M with t:=M.t.set c s }) fun h1=>h.live (getD_memS hc) h1
def putN (M:Img) (c k:Nat) (x:By):Img:=setI { M with n:=M.n.set k 1,d:=setF M.d k (some x) } c (1,(k:Int),true)
section
variable {M:Img} (h:OkI M) {c k:Nat} (hc:c<M.t.length) (hk:k<M.n.length) (h0:ng M k=0) (x:By)
theorem putN_keep:(putN M c k x).t=M.t.set c (1,(k:Int),true)∧(putN M c k x).B=M.B∧(putN M c k x).s=M.s∧(putN M c k x).n.length=M.n.length:=by
 have:=set_len (M:={ M with n:=M.n.set k 1,d:=setF M.d k (some x) }) (c:=c) (s:=(1,(k:Int),true))
 exact ⟨this.2.2.2.2,this.2.1,this.2.2.1,by unfold putN;rw [this.2.2.2.1];simp⟩
include h hc hk in
theorem putN_ng (j:Nat):ng (putN M c k x) j=(if j=k then 1 else ng M j) - (if isH j (M.t.getD c zS)=true then 1 else 0):=by
 have h1:ng { M with n:=M.n.set k 1,d:=setF M.d k (some x) } j=if j=k then 1 else ng M j:=getD_setN _ _ _ _ hk
 unfold putN setI
 rw [less_n (fun e=>?_)]
 ·show ng { M with n:=M.n.set k 1,d:=setF M.d k (some x) } j - _=_
  rw [h1]
 ·simp only [List.length_set]
  exact ng_lt (M:=M) (h.live (getD_memS hc) e)
include h hc h0 in
theorem old_ne {j:Nat} (e:isH j (M.t.getD c zS)=true):j≠k:=fun e'=>by
 have:=old_pos h.toOkJ hc e
 rw [e'] at this
 omega
include h hc hk h0 in
theorem putN_d (j:Nat):(putN M c k x).d j=if j=k then some x else if isH j (M.t.getD c zS)=true∧ng M j - 1=0 then none else M.d j:=by
 have h1:ng { M with n:=M.n.set k 1,d:=setF M.d k (some x) } j=if j=k then 1 else ng M j:=getD_setN _ _ _ _ hk
 have ho:isH j (M.t.getD c zS)=true→j≠k:=fun e=>old_ne h hc h0 e
 unfold putN
 rw [set_d,h1]
 by_cases e:j=k
 ·rw [if_pos e,if_pos e,if_neg (fun hh=>ho hh.1 e)]
  simp [setF,e]
 ·rw [if_neg e,if_neg e]
  split
  ·rfl
  ·simp [setF,e]
include h hc hk h0 in
theorem putN_ok (hx:x.length=M.z):OkI (putN M c k x):=by
 have hn:=putN_ng h hc hk x
 have hd:=putN_d h hc hk h0 x
 have ho:∀j,isH j (M.t.getD c zS)=true→j≠k:=fun j e=>old_ne h hc h0 e
 have hk512:rightS (1,(k:Int),true)=true:=by
  have:=h.room
  simp [rightS]
  omega
 refine swap_ok h hc hk512 (fun _=>⟨by simpa [hst] using h0,rfl⟩) (putN_keep x).2.1 (putN_keep x).1 (putN_keep x).2.2.1 (putN_keep x).2.2.2 (fun j=>?_) (fun j hj=>?_) (fun j hj=>?_)
 ·rw [hn]
  have hi:isH j ((1:Int),(k:Int),true)=decide (j=k):=by
   have hk':hst ((1:Int),(k:Int),true)=k:=by simp [hst]
   rw [Bool.eq_iff_iff,isH_iff,hk',decide_eq_true_eq]
   exact ⟨fun e=>e.2.symm,fun e=>⟨rfl,e.symm⟩⟩
  rw [hi]
  by_cases e:isH j (M.t.getD c zS)=true
  ·have h1:=ho j e
   have h2:=old_pos h.toOkJ hc e
   simp only [e,h1,if_true,if_false,decide_false,Bool.false_eq_true]
   omega
  ·by_cases e2:j=k
   ·subst e2
    simp only [e,h0,if_true,decide_true,Bool.false_eq_true,if_false]
   ·simp only [e,e2,decide_false,Bool.false_eq_true,if_false]
    rfl
 ·rw [hn] at hj
  rw [hd]
  by_cases e2:j=k
  ·subst e2
   rw [if_pos rfl,if_neg (fun e=>ho j e rfl)] at hj
   omega
  ·rw [if_neg e2] at hj ⊢
   by_cases e:isH j (M.t.getD c zS)=true
   ·rw [if_pos e] at hj
    rw [if_pos ⟨e,hj⟩]
   ·rw [if_neg e] at hj
    rw [if_neg (fun hh=>e hh.1)]
    exact h.gone j hj
 ·rw [hn] at hj
  rw [hd]
  by_cases e2:j=k
  ·rw [if_pos e2]
   exact ⟨x,rfl,hx⟩
  ·rw [if_neg e2] at hj ⊢
   by_cases e:isH j (M.t.getD c zS)=true
   ·rw [if_pos e] at hj
    rw [if_neg (by omega)]
    exact h.dat j (by omega)
   ·rw [if_neg e] at hj
    rw [if_neg (fun hh=>e hh.1)]
    exact h.dat j (by omega)
include h hc hk h0 in
theorem putN_dlive {j:Nat} (hj:0<ng (putN M c k x) j) (hne:j≠k):(putN M c k x).d j=M.d j:=by
 rw [putN_ng h hc hk] at hj
 rw [putN_d h hc hk h0,if_neg hne]
 rw [if_neg hne] at hj
 by_cases e:isH j (M.t.getD c zS)=true
 ·rw [if_pos e] at hj
  rw [if_neg (by omega)]
 ·rw [if_neg (fun hh=>e hh.1)]
include h hc hk h0 in
theorem putN_free:freeN M.n≤freeN (putN M c k x).n+1:=by
 have h1:=free_set (n:=M.n) (k:=k) (x:=1) hk
 rw [if_pos (show M.n.getD k 0=0 from h0),if_neg (by omega)] at h1
 have h2:freeN (M.n.set k 1)≤freeN (putN M c k x).n:=by
  unfold putN setI
  refine less_free (M:={ M with t:=M.t.set c (1,(k:Int),true),n:=M.n.set k 1,d:=setF M.d k (some x) }) fun e=>?_
  have h3:=h.live (getD_memS hc) e
  show 0<(M.n.set k 1).getD _ 0
  rw [getD_setN _ _ _ _ hk]
  split
  ·omega
  ·exact h3
 omega
end
theorem fr1_lt {n:List Nat} (h:0<freeN n):fr1 n<n.length∧n.getD (fr1 n) 0=0:=by
 unfold freeN at h
 obtain ⟨x,hx,h0⟩:=List.countP_pos_iff.1 h
 have hl:=List.findIdx_lt_length_of_exists (p:=fun x=>decide (x=0)) ⟨x,hx,h0⟩
 refine ⟨hl,?_⟩
 have:=List.findIdx_getElem (w:=hl)
 unfold fr1
 rw [List.getD_eq_getElem?_getD,List.getElem?_eq_getElem hl]
 simpa using this
def spl (x:By) (f:Nat) (b:By):By:=x.take f++b++x.drop (f+b.length)
theorem spl_len {x:By} {f:Nat} {b:By} (h:f+b.length≤x.length):(spl x f b).length=x.length:=by
 unfold spl
 simp
 omega
def overI (M:Img) (k f:Nat) (b:By):Img:={ M with d:=setF M.d k (some (spl ((M.d k).getD []) f b)) }
theorem over_ok {M:Img} (h:OkI M) {k f:Nat} {b:By} (hk:0<ng M k) (hf:f+b.length≤M.z):OkI (overI M k f b):=by
 obtain ⟨x,hx,hl⟩:=h.dat k hk
 refine ⟨⟨h.B,h.len,h.room,h.right,h.rights,h.lens,h.cnt,h.one,h.ones,fun j hj=>?_,fun j hj=>?_,h.names,h.nodup,h.few⟩,h.own⟩
 ·have hj:ng M j=0:=hj
  have:j≠k:=fun e=>by rw [e] at hj;omega
  simp only [overI,setF,if_neg this]
  exact h.gone j hj
 ·have hj:0<ng M j:=hj
  simp only [overI,setF]
  split
  ·refine ⟨_,rfl,?_⟩
   rw [hx]
   show (spl x f b).length=M.z
   rw [spl_len (by rw [hl];exact hf),hl]
  ·exact h.dat j hj
def needB (s:Slt):Bool:=!(decide (s.1=1) && s.2.2)
def putI (M:Img) (c f:Nat) (b x:By):Img :=
 if needB (M.t.getD c zS)=true then overI (putN M c (fr1 M.n) x) (fr1 M.n) f b else overI M (hst (M.t.getD c zS)) f b
section
variable {M:Img} (h:OkI M) {c f:Nat} (hc:c<M.t.length) {b x:By} (hx:x.length=M.z) (hf:f+b.length≤M.z) (hfree:needB (M.t.getD c zS)=true→0<freeN M.n)
include h hc in
theorem own_one (hn:¬needB (M.t.getD c zS)=true):(M.t.getD c zS).1=1∧(M.t.getD c zS).2.2=true∧ng M (hst (M.t.getD c zS))=1:=by
 simp only [needB,Bool.not_eq_true',Bool.not_eq_false,Bool.and_eq_true,decide_eq_true_eq] at hn
 have:=h.own _ (getD_memS hc) hn.1
 rw [hn.2] at this
 exact ⟨hn.1,hn.2,by simpa using this.symm⟩
include h hc hf hx hfree in
theorem put_ok:OkI (putI M c f b x):=by
 unfold putI
 split
 ·rename_i hn
  obtain ⟨h1,h2⟩:=fr1_lt (hfree hn)
  have h3:=putN_ok h hc h1 h2 x hx
  refine over_ok h3 ?_ (by rw [show (putN M c (fr1 M.n) x).z=M.z by unfold Img.z;rw [(putN_keep x).2.1]];exact hf)
  rw [putN_ng h hc h1,if_pos rfl,if_neg (fun e=>old_ne h hc h2 e rfl)]
  omega
 ·rename_i hn
  exact over_ok h (by rw [(own_one h hc hn).2.2];omega) hf
include h hc hfree in
theorem put_free:freeN M.n≤freeN (putI M c f b x).n+(if needB (M.t.getD c zS)=true then 1 else 0):=by
 unfold putI
 split
 ·rename_i hn
  obtain ⟨h1,h2⟩:=fr1_lt (hfree hn)
  exact putN_free h hc h1 h2 x
 ·exact Nat.le_refl _
theorem put_keep:(putI M c f b x).B=M.B∧(putI M c f b x).s=M.s∧(putI M c f b x).n.length=M.n.length∧(putI M c f b x).t=if needB (M.t.getD c zS)=true then M.t.set c (1,(fr1 M.n:Int),true) else M.t:=by
 unfold putI
 split
 ·have:=putN_keep (M:=M) (c:=c) (k:=fr1 M.n) x
  exact ⟨this.2.1,this.2.2.1,this.2.2.2,this.1⟩
 ·exact ⟨rfl,rfl,rfl,rfl⟩
theorem over_con (k:Nat) (s:Slt):conS (overI M k f b) s=if s.1=1∧hst s=k then spl ((M.d k).getD []) f b else conS M s:=by
 unfold conS overI Img.z
 by_cases h1:s.1=1
 ·rw [if_pos h1]
  by_cases h2:hst s=k
  ·rw [if_pos ⟨h1,h2⟩]
   simp [setF,h2]
  ·rw [if_neg (fun hh=>h2 hh.2),if_pos h1]
   simp [setF,h2]
 ·rw [if_neg h1,if_neg (fun hh=>h1 hh.1),if_neg h1]
include h hc hx hfree in
theorem put_con (c':Nat):conC (putI M c f b x) c'=if c'=c then spl (if needB (M.t.getD c zS)=true then x else conC M c) f b else conC M c':=by
 unfold putI
 split
 ·rename_i hn
  obtain ⟨h1,h2⟩:=fr1_lt (hfree hn)
  have h3:=putN_ok h hc h1 h2 x hx
  have hd:=putN_d h hc h1 h2 x (fr1 M.n)
  rw [if_pos rfl] at hd
  unfold conC
  rw [over_con]
  simp only [hd,Option.getD_some]
  have ht:(overI (putN M c (fr1 M.n) x) (fr1 M.n) f b).t=M.t.set c (1,(fr1 M.n:Int),true):=(putN_keep x).1
  rw [ht,getD_setS hc]
  by_cases e:c'=c
  ·rw [if_pos e,if_pos e,if_pos ⟨rfl,by simp [hst]⟩]
  ·rw [if_neg e,if_neg e]
   by_cases hc':c'<M.t.length
   ·have hne:(M.t.getD c' zS).1=1→hst (M.t.getD c' zS)≠fr1 M.n:=fun h4 h5=>by
     have:=h.live (getD_memS hc') h4
     rw [h5] at this
     unfold ng at this
     omega
    rw [if_neg (fun hh=>hne hh.1 hh.2)]
    refine con_eq (putN_keep x).2.1 fun h4=>putN_dlive h hc h1 h2 x ?_ (hne h4)
    refine h3.live (s:=M.t.getD c' zS) ?_ h4
    have:=getD_memS (l:=(putN M c (fr1 M.n) x).t) (c:=c') (by rw [(putN_keep x).1,List.length_set];exact hc')
    rw [(putN_keep x).1] at this ⊢
    rwa [getD_setS hc,if_neg e] at this
   ·rw [getD_outS hc',if_neg (by simp [zS])]
    exact con_eq (putN_keep x).2.1 fun hx=>by simp [zS] at hx
 ·rename_i hn
  obtain ⟨h1,h2,h3⟩:=own_one h hc hn
  unfold conC
  rw [over_con]
  have ht:(overI M (hst (M.t.getD c zS)) f b).t=M.t:=rfl
  rw [ht]
  by_cases e:c'=c
  ·rw [e,if_pos ⟨h1,rfl⟩,if_pos rfl]
   unfold conS
   rw [if_pos h1]
  ·rw [if_neg e,if_neg]
   rintro ⟨h4,h5⟩
   by_cases hc':c'<M.t.length
   ·exact e (one_at (h.one _) hc' hc (isH_iff.2 ⟨h4,h5⟩) (isH_iff.2 ⟨h1,rfl⟩))
   ·rw [getD_outS hc'] at h4
    simp [zS] at h4
include h hc hx hfree in
theorem put_snap {p:By × List Slt} (hp:p∈M.s) {y:Slt} (hy:y∈p.2):conS (putI M c f b x) y=conS M y:=by
 unfold putI
 split
 ·rename_i hn
  obtain ⟨h1,h2⟩:=fr1_lt (hfree hn)
  have h3:=putN_ok h hc h1 h2 x hx
  have hne:y.1=1→hst y≠fr1 M.n:=fun h4 h5=>by
   have:=h.lives hp hy h4
   rw [h5] at this
   unfold ng at this
   omega
  rw [over_con,if_neg (fun hh=>hne hh.1 hh.2)]
  exact con_eq (putN_keep x).2.1 fun h4=>putN_dlive h hc h1 h2 x (h3.lives (by rw [(putN_keep x).2.2.1];exact hp) hy h4) (hne h4)
 ·rename_i hn
  obtain ⟨h1,h2,h3⟩:=own_one h hc hn
  rw [over_con,if_neg]
  rintro ⟨h4,h5⟩
  have h6:=h.cnt (hst (M.t.getD c zS))
  have h7:0<cntT M.t (hst (M.t.getD c zS)):=cntT_pos.2 ⟨_,getD_memS hc,h1,rfl⟩
  have h8:0<cntS M.s (hst (M.t.getD c zS)):=cntS_pos.2 ⟨p,hp,cntT_pos.2 ⟨y,hy,h4,h5⟩⟩
  unfold refs at h6
  omega
end
end Go.Proofs.YtffnihooekbcnaaGreat
namespace Go.Proofs.YtffnihooekbcnaaGreat
def isL (l:List Slt) (c:Nat):Bool:=(l.getD c zS).1 != 0
def listed (l:List Slt):List Nat:=(List.range 256).filter (isL l)
end Go.Proofs.YtffnihooekbcnaaGreat
namespace Go.Proofs.YtffnihooekbcnaaGreat
open Go.RowKit
def zQ:By × List Slt:=([],[])
abbrev natC (x:Nat):List Value:=[.int .i64 (x:Int)]
theorem flatN_length (l:List Nat):(l.flatMap natC).length=l.length:=by induction l <;> simp_all
theorem flatN_at (l:List Nat) (i:Nat) (h:i<l.length):(l.flatMap natC)[i]? = some (.int .i64 (l.getD i 0:Nat)):=by
 have:=flat_at natC 1 (fun _=>rfl) l i 0 (by omega)
 rw [Nat.mul_one,Nat.add_zero,getD_some 0 h] at this
 exact this
theorem flatN_set (l:List Nat) (i x:Nat):(l.set i x).flatMap natC=(l.flatMap natC).set i (.int .i64 (x:Int)):=by
 apply List.ext_getElem?
 intro k
 have h1:=flat_at natC 1 (fun _=>rfl) (l.set i x) k 0 (by omega)
 have h2:=flat_at natC 1 (fun _=>rfl) l k 0 (by omega)
 rw [Nat.mul_one,Nat.add_zero] at h1 h2
 rw [h1,List.getElem?_set,List.getElem?_set,flatN_length,h2]
 by_cases e:i=k
 ·subst e
  by_cases hi:i<l.length
  ·rw [if_pos rfl,if_pos rfl,if_pos hi];simp [hi]
  ·rw [if_pos rfl,if_pos rfl,if_neg hi];simp [hi]
 ·rw [if_neg e,if_neg e]
structure CntW (w:World) (nb:Nat) (rv:Value) (n:List Nat):Prop where
 blk:Blk w nb [rv] 255
 row:w.ownsRow 0 3 1 rv n.length (n.flatMap natC)
 len:n.length≤512
 big:∀x∈n,x≤65535
section
variable {w w':World} {nb:Nat} {rv:Value} {n:List Nat}
theorem CntW.fr {L:List Nat} (h:CntW w nb rv n) (hf:Fr L w w') (h1:nb ∉ L) (h2:∀k,rv.ownBlock=some k→k ∉ L):CntW w' nb rv n:=⟨h.blk.fr hf h1,owns_fr h.row hf h2,h.len,h.big⟩
theorem CntW.fr0 (h:CntW w nb rv n) (hf:Fr [] w w'):CntW w' nb rv n:=h.fr hf (by simp) (by simp)
theorem CntW.open (h:CntW w nb rv n):∃a c,rv=.slice a n.length c∧c≤maxLen:=by
 obtain ⟨a,c,h1,_,h3,_⟩:=Sl.of_owns h.row
 exact ⟨a,c,h1,h3⟩
theorem CntW.at (h:CntW w nb rv n) {i:Nat} (hi:i<n.length):∃g c,rv=.slice (some ⟨g,0,none⟩) n.length c∧g<w.heap.size∧g≠nb∧w.cell? ⟨g,i,none⟩=some (.int .i64 (n.getD i 0:Nat))∧w.frozen? ⟨g,i,none⟩=false:=by
 obtain ⟨g,c,rfl,_,_⟩:=owns_succ h.row (by omega)
 have h1:=owns_at h.row (flatN_at n i hi)
 refine ⟨g,c,rfl,(h.row.lt g rfl).2,?_,h1⟩
 rintro rfl
 have h2:=h.blk.cell i
 rw [h1.1] at h2
 cases i with
 | zero=>cases h2
 | succ i=>cases h2
theorem CntW.put {g c:Nat} (h:CntW w nb (.slice (some ⟨g,0,none⟩) n.length c) n) (hg:g≠nb) (k x:Nat) (hx:x≤65535):CntW (w.setCell ⟨g,k,none⟩ (.int .i64 (x:Int))) nb (.slice (some ⟨g,0,none⟩) n.length c) (n.set k x):=by
 refine ⟨h.blk.other (by simpa using hg.symm) _,?_,by rw [List.length_set];exact h.len,fun y hy=>?_⟩
 ·rw [flatN_set,List.length_set]
  exact owns_put h.row k _
 ·rcases List.mem_or_eq_of_mem_set hy with hy | rfl
  ·exact h.big y hy
  ·exact hx
end
section
variable (nb:Nat) (rv:Value) (n:List Nat) (w:World) (h:CntW w nb rv n)
include h
theorem cIs_calls (x:Int):Calls Tryz.prog 259 #[.pointer (some ⟨nb,0,none⟩),.int .i64 x] w fun e w'=>e=.returned (.bool (decide (0≤x) && decide (x<n.length)))∧w=w':=by
 have c:=h.blk.cell
 obtain ⟨a,cap,rfl,_⟩:=h.open
 by_cases h0:0≤x
 ·rw [decide_eq_true h0,Bool.true_and]
  go_enter Tryz.func259,Tryz.ntmps259
  go_wp2
  go_ret
  exact ⟨rfl,rfl⟩
 ·rw [decide_eq_false h0,Bool.false_and]
  go_enter Tryz.func259,Tryz.ntmps259
  go_wp2
  go_ret
  exact ⟨rfl,rfl⟩
end
theorem freeN_snoc (l:List Nat) (x:Nat):freeN (l++[x])=freeN l+(if x=0 then 1 else 0):=by
 unfold freeN
 rw [List.countP_append]
 simp [List.countP_cons]
theorem freeN_take {l:List Nat} {k:Nat} (hk:k<l.length):freeN (l.take (k+1))=freeN (l.take k)+(if l.getD k 0=0 then 1 else 0):=by
 rw [List.take_succ_eq_append_getElem hk,freeN_snoc,List.getD_eq_getElem?_getD,List.getElem?_eq_getElem hk]
 rfl
theorem freeN_le (l:List Nat):freeN l≤l.length:=List.countP_le_length
theorem cFree_calls (nb:Nat) (rv:Value) (n:List Nat) (w:World) (h:CntW w nb rv n):Calls Tryz.prog 180 #[.pointer (some ⟨nb,0,none⟩)] w fun e w'=>e=.returned (.int .i64 (freeN n:Nat))∧w=w':=by
 have c:=h.blk.cell
 obtain ⟨a,cap,rfl,_⟩:=h.open
 have hlen:=h.len
 go_enter Tryz.func180,Tryz.ntmps180
 go_wp2
 go_loop [3,11] (fun u i=>∃k:Nat,k≤n.length∧i=.int .i64 k∧u=.int .i64 (freeN (n.take k):Nat)) (fun _ i=>n.length - (intOf i).toNat)
 case atStart=>exact ⟨0,Nat.zero_le _,rfl,rfl⟩
 case round =>
  obtain ⟨k,hk,rfl,rfl⟩:=hrel
  by_cases hlt:k<n.length
  ·obtain ⟨g,cap',hrv,hg,hne,d,_⟩:=h.at hlt
   cases hrv
   have hle:freeN (n.take k)≤512:=by have:=freeN_le (n.take k);have:=List.length_take_le k n;omega
   have Hs:=hidIt (freeN_take hlt)
   clear h
   generalize n.getD k 0=x at *
   by_cases hx:x=0
   ·subst hx
    have hs:(freeN (n.take k):Int)+1=(freeN (n.take (k+1)):Nat):=by rw [Hs.out,if_pos rfl];omega
    have HS:=hidIt hs
    clear hs Hs
    generalize freeN (n.take k)=q at *
    go_wp2
    go_round
    case rel=>exact ⟨k+1,by omega,by go_num,by rw [HS.out]⟩
    case measure=>simp [intOf];omega
   ·have hx':((x:Int) == 0)=false:=by simpa using hx
    have hs:freeN (n.take (k+1))=freeN (n.take k):=by rw [Hs.out,if_neg hx];rfl
    have HS:=hidIt hs
    clear hs Hs hx
    go_wp2
    go_round
    case rel=>exact ⟨k+1,by omega,by go_num,by rw [HS.out]⟩
    case measure=>simp [intOf];omega
  ·have hke:k=n.length:=by omega
   subst hke
   go_wp2
   go_ret
   exact ⟨rfl,rfl⟩
theorem fr1_at {n:List Nat} {k:Nat} (hk:k<n.length) (h0:n.getD k 0=0) (hlt:∀j,j<k→n.getD j 0≠0):fr1 n=k:=by
 have hg:n[k]=n.getD k 0:=by rw [List.getD_eq_getElem?_getD,List.getElem?_eq_getElem hk];rfl
 refine (List.findIdx_eq hk).2 ⟨by rw [hg,h0];rfl,fun j hj=>?_⟩
 have hj2:j<n.length:=by omega
 have:=hlt j hj
 rw [List.getD_eq_getElem?_getD,List.getElem?_eq_getElem hj2] at this
 simpa using this
def takePost (w:World) (nb:Nat) (rv:Value) (n:List Nat) (e:Ending) (w':World):Prop :=
 ∃g c,rv=.slice (some ⟨g,0,none⟩) n.length c∧e=.returned (.tuple #[.int .i64 (fr1 n:Nat),.int .i64 0])∧CntW w' nb rv (n.set (fr1 n) 1)∧Fr [g] w w'
theorem cTake_calls (nb:Nat) (rv:Value) (n:List Nat) (w:World) (h:CntW w nb rv n) (hf:0<freeN n):Calls Tryz.prog 181 #[.pointer (some ⟨nb,0,none⟩)] w (takePost w nb rv n):=by
 have c:=h.blk.cell
 have hlen:=h.len
 have hpos:0<n.length:=by have:=freeN_le n;omega
 obtain ⟨g,cap,rfl,hg,hne,_⟩:=h.at hpos
 have Hno:Hid (¬∀j,j<n.length→n.getD j 0≠0):=hidIt (fun hall=>by
  unfold freeN at hf
  obtain ⟨x,hx,h0⟩:=List.countP_pos_iff.1 hf
  obtain ⟨j,hj,rfl⟩:=List.mem_iff_getElem.1 hx
  have:=hall j hj
  rw [List.getD_eq_getElem?_getD,List.getElem?_eq_getElem hj] at this
  exact this (by simpa using h0))
 clear hf
 go_enter Tryz.func181,Tryz.ntmps181
 go_wp2
 go_loop [10] (fun i=>∃k:Nat,k≤n.length∧i=.int .i64 k∧∀j,j<k→n.getD j 0≠0) (fun i=>n.length - (intOf i).toNat)
 case atStart=>exact ⟨0,Nat.zero_le _,rfl,fun j hj=>by omega⟩
 case round =>
  obtain ⟨k,hk,rfl,hall⟩:=hrel
  by_cases hlt:k<n.length
  ·obtain ⟨g',cap',hrv,_,_,d,f⟩:=h.at hlt
   cases hrv
   have hput:=h.put hne k 1 (by omega)
   have Hf:=hidIt (fun h0=>fr1_at hlt h0 hall)
   have Hn:Hid (n.getD k 0≠0→∀j,j<k+1→n.getD j 0≠0):=hidIt (fun h0 j hj=>by
    by_cases e:j=k
    ·subst e;exact h0
    ·exact hall j (by omega))
   clear hall h
   obtain ⟨x,hx⟩:∃x,n.getD k 0=x:=⟨_,rfl⟩
   rw [hx] at d Hf Hn
   clear hx
   by_cases h0:x=0
   ·subst h0
    have HF:=hidIt (Hf.out rfl)
    clear Hf Hn
    go_wp2
    go_ret2
    exact ⟨g,cap,rfl,by rw [HF.out];rfl,by rw [HF.out];exact hput,(Fr.refl [g] w).setCell (.inl (by simp)) _⟩
   ·have hx':((x:Int) == 0)=false:=by simpa using h0
    have HN:=hidIt (Hn.out h0)
    clear Hf Hn h0
    go_wp2
    go_round
    case rel=>exact ⟨k+1,by omega,by go_num,HN.out⟩
    case measure=>simp [intOf];omega
  ·have hke:k=n.length:=by omega
   subst hke
   exact absurd hall Hno.out
def cntPost (w:World) (nb:Nat) (rv:Value) (n:List Nat) (v:Value) (e:Ending) (w':World):Prop :=
 ∃g c,rv=.slice (some ⟨g,0,none⟩) n.length c∧e=.returned v∧CntW w' nb rv n∧Fr [g] w w'
theorem cLess_calls (nb:Nat) (rv:Value) (n:List Nat) (w:World) (h:CntW w nb rv n) (k:Nat) (h0:0<n.getD k 0) :
 Calls Tryz.prog 206 #[.pointer (some ⟨nb,0,none⟩),.int .i64 (k:Int)] w (cntPost w nb rv (n.set k (n.getD k 0 - 1)) (.tuple #[.int .i64 ((n.getD k 0 - 1:Nat):Int),.int .i64 0])):=by
 have hk:k<n.length:=getD_posN h0
 have c:=h.blk.cell
 have kI:=cIs_calls nb rv n w h k
 have hd:(decide ((0:Int)≤(k:Int)) && decide ((k:Int)<n.length))=true:=by simp;omega
 rw [hd] at kI
 obtain ⟨g,cap,rfl,hg,hne,d,f⟩:=h.at hk
 have hbig:n.getD k 0≤65535:=h.big _ (by rw [List.getD_eq_getElem?_getD,List.getElem?_eq_getElem hk];exact List.getElem_mem hk)
 have hput:=h.put hne k (n.getD k 0 - 1) (by omega)
 have hl:(n.set k (n.getD k 0 - 1)).length=n.length:=List.length_set
 have e1:(((n.getD k 0:Nat):Int) == 0)=false:=by
  have:((n.getD k 0:Nat):Int)≠0:=by omega
  simpa using this
 have HP:=hidIt hput
 have HL:=hidIt hl
 clear h hd hput hl
 generalize n.getD k 0=x at *
 have hx1:((x - 1:Nat):Int)=(x:Int)+-1:=by omega
 have HN:Hid (∀X,X=w.setCell ⟨g,k,none⟩ (.int .i64 (x+-1))→CntW X nb (.slice (some ⟨g,0,none⟩) n.length cap) (n.set k (x - 1))):=hidIt (fun X hX=>by subst hX;have:=HP.out;rw [hx1] at this;exact this)
 rw [hx1]
 clear hx1
 go_enter Tryz.func206,Tryz.ntmps206
 go_wp2_with (first
  | (go_at_call 259;refine kI.mono ?_;rintro e w1 ⟨rfl,rfl⟩)
  | go_in)
 go_ret2
 exact ⟨g,cap,by rw [HL.out],rfl,HN.out _ rfl,(Fr.refl [g] w).setCell (.inl (by simp)) _⟩
theorem infoN:(Tryz.prog.info? 3).map (fun i=>(i.zero,i.size,i.bytes))=some (some (.int .i64 0),1,8):=by kernel_rfl
abbrev snC (p:By × Nat):List Value:=[strL p.1,.pointer (some ⟨p.2,0,none⟩)]
theorem flatY_length1 (l:List UInt8):(l.flatMap byC).length=l.length*1:=by rw [flatY_length,Nat.mul_one]
theorem CloneY_calls (u:Value) (l:List (UInt8)) (w:World) (hs:SlF byC w u l) (hl:l.length≤1048576) :
 Calls Tryz.prog 151 #[u] w fun e w'=>∃v,e=.returned v∧w'.ownsRow w.heap.size 5 1 v l.length (l.flatMap byC)∧Fr [] w w':=by
 obtain ⟨i0,hi,hz0,hz1,hz2⟩:=info_parts infoY
 have hs0:=hs
 obtain ⟨a,cap,rfl,hmc,hcm,hc⟩:=hs
 cases a with
 | none =>
   have hn:l=[]:=by
    rcases hc with h | ⟨b,off,h,_⟩
    ·have:=congrArg List.length h
     rw [flatY_length1] at this
     exact List.eq_nil_of_length_eq_zero (by rw [List.length_nil] at this;omega)
    ·cases h
   subst hn
   have hq:∀(w:World),(binOp .eql 31 (.slice none 0 cap) (.slice none 0 0)).run Tryz.prog w=.ok (.bool true) w:=fun w=>Lib.run_eql_slice_nil w _ 5 none 0 cap 0 0 Tryz.underlying31
   simp only [List.length_nil]
   go_enter Tryz.func151,Tryz.ntmps151
   go_wp2
   go_ret
   exact ⟨_,rfl,World.ownsRow_nil _ _ _ _,Fr.refl _ _⟩
 | some ad =>
   have hq:∀(w:World),(binOp .eql 31 (.slice (some ad) l.length cap) (.slice none 0 0)).run Tryz.prog w=.ok (.bool false) w:=fun w=>Lib.run_eql_slice_nil w _ 5 (some ad) l.length cap 0 0 Tryz.underlying31
   have hcell:∀(j:Nat) (y:Value),(l.flatMap byC)[j]? = some y→(w.alloc (.cells #[] 5)).cell? (ad.add j)=some y:=fun j y hy=>by
    rcases hc with he | ⟨b,off,hab,hb,hc⟩
    ·rw [he] at hy;cases hy
    ·cases hab
     have hadd:(⟨b,off,none⟩:Addr).add j=⟨b,off+j,none⟩:=by unfold Addr.add;split <;> simp_all
     rw [hadd]
     exact (World.cell?_of_block (((Fr.refl [] w).alloc _).block b hb (by simp))).trans (hc j y hy)
   clear hs0 hc
   go_enter Tryz.func151,Tryz.ntmps151
   go_wp2_with (at_builtin;refine Hid.out ?_)
   refine hidIt ?_
   refine wpList_append_own_at (w.alloc (.cells #[] 5)) rfl _ _ 31 rfl w.heap.size 5 i0 _ 1 1 Tryz.underlying31 hi hz0 hz1 hz2 rfl (by decide) (.slice (some ⟨w.heap.size,0,none⟩) 0 0) 0 [] rfl (World.ownsRow_made w #[] 0 (Nat.le_refl _) (by decide) rfl) ad l.length cap (l.flatMap byC) rfl (flatY_length1 l) hcell (flat_one (fun _=>by_one) l) (by unfold maxLen;omega) (by omega) (by simp) ?_
   intro v2 w2 hown2 hgrow2 _ hloc2
   rw [Nat.zero_add,List.nil_append] at hown2
   obtain ⟨a2,c2,rfl,_⟩:=Sl.of_owns hown2
   have hF2:Fr [] w w2:=((Fr.refl [] w).alloc _).grown hgrow2 (fun x hx=>.inr (by cases hx;exact Nat.le_refl _))
   go_wp2
   go_ret
   exact ⟨_,rfl,hown2,hF2⟩
def newPost (w:World) (n:Nat) (e:Ending) (w':World):Prop:=∃nb rv,e=.returned (.tuple #[.pointer (some ⟨nb,0,none⟩),.int .i64 0])∧CntW w' nb rv (List.replicate n 0)∧w.heap.size≤nb∧(∀k,rv.ownBlock=some k→w.heap.size≤k)∧Fr [] w w'
theorem makeN (n:Nat) (w:World) (h:n≤4096):∃w',(Instr.makeSlice 167 (.int .i64 (n:Int)) (.int .i64 (n:Int))).run Tryz.prog w=.ok (.slice (some ⟨w.heap.size,0,none⟩) n n) w' ∧
 w'.ownsRow w.heap.size 3 1 (.slice (some ⟨w.heap.size,0,none⟩) n n) n ((List.replicate n 0).flatMap natC)∧w.grownBy w' none:=by
 obtain ⟨i0,hi0,hz0,hz1,hz2⟩:=info_parts infoN
 obtain ⟨w2,hrun,hown,hg⟩:=run_make_full (P:=Tryz.prog) w w.heap.size 167 3 i0 _ 1 Tryz.underlying167 hi0 hz0 hz1 .i64 .i64 n (by rw [hz2];omega) (by unfold maxLen;omega) (Nat.le_refl _)
 refine ⟨w2,hrun,?_,hg⟩
 have e:(madeCells (Value.int .i64 0).cells (n*1)).toList=(List.replicate n 0).flatMap natC:=by
  show (madeCells #[Value.int .i64 0] (n*1)).toList=_
  rw [Nat.mul_one,toList_madeCells_one]
  clear hown hrun hg h
  induction n with
  | zero=>rfl
  | succ n ih=>rw [List.replicate_succ,List.replicate_succ,List.flatMap_cons,←ih];rfl
 rw [←e]
 exact hown
theorem makeY (n:Nat) (w:World) (h:n≤65536):∃w',(Instr.makeSlice 31 (.int .i64 (n:Int)) (.int .i64 (n:Int))).run Tryz.prog w=.ok (.slice (some ⟨w.heap.size,0,none⟩) n n) w' ∧
 w'.ownsRow w.heap.size 5 1 (.slice (some ⟨w.heap.size,0,none⟩) n n) n ((zBy n).flatMap byC)∧w.grownBy w' none:=by
 obtain ⟨i0,hi0,hz0,hz1,hz2⟩:=info_parts infoY
 obtain ⟨w2,hrun,hown,hg⟩:=run_make_full (P:=Tryz.prog) w w.heap.size 31 5 i0 _ 1 Tryz.underlying31 hi0 hz0 hz1 .i64 .i64 n (by rw [hz2];omega) (by unfold maxLen;omega) (Nat.le_refl _)
 refine ⟨w2,hrun,?_,hg⟩
 have e:(madeCells (Value.int .u8 0).cells (n*1)).toList=(zBy n).flatMap byC:=by
  show (madeCells #[Value.int .u8 0] (n*1)).toList=_
  rw [Nat.mul_one,toList_madeCells_one]
  unfold zBy
  clear hown hrun hg h
  induction n with
  | zero=>rfl
  | succ n ih=>rw [List.replicate_succ,List.replicate_succ,List.flatMap_cons,←ih];rfl
 rw [←e]
 exact hown
theorem cNew_yes (n:Nat) (w:World) (h:n≤512):Calls Tryz.prog 127 #[.int .i64 (n:Int)] w (newPost w n):=by
 obtain ⟨w2,hrun,hown,hg⟩:=makeN n w (by omega)
 have hF:=(Fr.refl [] w).grown hg (fun x hx=>by cases hx)
 have hb:=own_base hown
 have B:=Blk.new w2 [.slice (some ⟨w.heap.size,0,none⟩) n n] 255
 have hfa:=(Fr.refl [] w2).alloc (.cells #[.slice (some ⟨w.heap.size,0,none⟩) n n] 255)
 have hz:=hF.size
 have hl:(List.replicate n 0).length=n:=List.length_replicate
 have hown2:=owns_base (base':=0) (owns_fr hown hfa (by simp)) (Nat.zero_le _)
 have hC:CntW (w2.alloc (.cells #[.slice (some ⟨w.heap.size,0,none⟩) n n] 255)) w2.heap.size (.slice (some ⟨w.heap.size,0,none⟩) n n) (List.replicate n 0):=by
  refine ⟨B,?_,?_,fun x hx=>by rw [List.eq_of_mem_replicate hx];exact Nat.zero_le _⟩
  ·rw [hl];exact hown2
  ·rw [hl];exact h
 have HC:=hidIt hC
 clear hC hown2 hown hl B
 go_enter Tryz.func127,Tryz.ntmps127
 go_wp2
 go_ret2
 exact ⟨_,_,rfl,HC.out,hz,hb,hF.trans0 hfa⟩
end Go.Proofs.YtffnihooekbcnaaGreat
namespace Go.Proofs.YtffnihooekbcnaaGreat
def pcF (z a:Nat):Nat:=16*a / z
def pcN (z a l:Nat):Nat:=if l=0 then 0 else (16*(a+l)+z - 1) / z - 16*a / z
def pcC (z a k:Nat):Nat:=pcF z a+k
def pcFr (z a k:Nat):Nat:=16*a - pcC z a k*z
def pcTo (z a l k:Nat):Nat:=min (16*(a+l) - pcC z a k*z) z
def pcAt (z a k:Nat):Nat:=pcC z a k*z+pcFr z a k - 16*a
theorem ceil_lt' {x z c:Nat} (hz:0<z):c<(x+z - 1) / z ↔ c*z<x:=by
 rw [Nat.lt_iff_add_one_le,Nat.le_div_iff_mul_le hz,Nat.add_mul,Nat.one_mul]
 omega
section
variable {z a l k:Nat} (hz:0<z)
include hz
theorem pc_lt:k<pcN z a l ↔ 0<l∧pcC z a k*z<16*(a+l):=by
 unfold pcN pcC pcF
 by_cases hl:l=0
 ·rw [if_pos hl]
  omega
 ·rw [if_neg hl,←ceil_lt' hz]
  have hle:16*a / z≤(16*(a+l)+z - 1) / z:=Nat.div_le_div_right (by omega)
  omega
theorem pc_facts (hk:k<pcN z a l):pcFr z a k<pcTo z a l k∧pcTo z a l k≤z∧pcC z a k*z+pcTo z a l k≤16*(a+l)∧pcAt z a k+(pcTo z a l k - pcFr z a k)≤16*l ∧
 16*a≤pcC z a k*z+pcFr z a k∧(k=0∨pcFr z a k=0)∧(0<k→pcC z a k*z+pcFr z a k=pcC z a k*z)∧(k+1<pcN z a l→pcTo z a l k=z)∧(k+1=pcN z a l→pcC z a k*z+pcTo z a l k=16*(a+l)):=by
 obtain ⟨h1,h2⟩:=(pc_lt hz).1 hk
 have h3:16*a / z*z≤16*a:=Nat.div_mul_le_self _ _
 have h4:16*a<16*a / z*z+z:=by
  have e1:=Nat.mod_lt (16*a) hz
  have e:=Nat.div_add_mod (16*a) z
  rw [Nat.mul_comm z] at e
  omega
 have h5:pcC z a k*z=16*a / z*z+k*z:=by unfold pcC pcF;rw [Nat.add_mul]
 have h6:0<k→z≤k*z:=fun h=>by
  calc z=1*z:=(Nat.one_mul z).symm
   _≤k*z:=Nat.mul_le_mul_right z h
 have h7:pcC z a (k+1)*z=pcC z a k*z+z:=by unfold pcC;rw [←Nat.add_assoc,Nat.add_mul (pcF z a+k) 1,Nat.one_mul]
 have h8:k+1<pcN z a l→pcC z a k*z+z<16*(a+l):=fun h=>by
  have:=((pc_lt hz).1 h).2
  omega
 have h9:k+1=pcN z a l→¬pcC z a k*z+z<16*(a+l):=fun h h'=>by
  have:=(pc_lt (a:=a) (l:=l) (k:=k+1) hz).2 ⟨h1,by omega⟩
  omega
 have hfr:pcFr z a k=16*a - pcC z a k*z:=rfl
 have hto:pcTo z a l k=min (16*(a+l) - pcC z a k*z) z:=rfl
 have hat:pcAt z a k=pcC z a k*z+pcFr z a k - 16*a:=rfl
 generalize pcC z a k*z=m at *
 generalize 16*a / z*z=q at *
 generalize k*z=r at *
 refine ⟨?_,?_,?_,?_,?_,?_,?_,?_,?_⟩
 ·by_cases h0:0<k
  ·have:=h6 h0;omega
  ·have:k=0:=by omega
   subst this
   omega
 ·omega
 ·omega
 ·omega
 ·by_cases h0:0<k
  ·have:=h6 h0;omega
  ·omega
 ·by_cases h0:0<k
  ·right;have:=h6 h0;omega
  ·left;omega
 ·intro h0
  have:=h6 h0
  omega
 ·intro h
  have:=h8 h
  omega
 ·intro h
  have:=h9 h
  omega
end
end Go.Proofs.YtffnihooekbcnaaGreat
