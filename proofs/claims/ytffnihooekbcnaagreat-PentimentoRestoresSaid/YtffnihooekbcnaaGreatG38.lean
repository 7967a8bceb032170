/-
  What a world keeps when an overlay is laid, or a job begins: in plain Lean.
-/
import Derived.Test.YtffnihooekbcnaaGreatG37
set_option maxRecDepth 100000
set_option maxHeartbeats 6400000
namespace Go.Proofs.YtffnihooekbcnaaGreat
open Go.RowKit
theorem ins_x (c:Cd):∀L:List Cd,(nlIns Cd.nm c L).map (·.x)=nlIns Dk.nm c.x (L.map (·.x))
 | []=>rfl
 | d :: l=>by
   simp only [nlIns,List.map_cons]
   by_cases e:Cd.nm c<Cd.nm d
   ·have e':Dk.nm c.x<Dk.nm d.x:=e
    rw [if_pos e,if_pos e']
    rfl
   ·have e':¬Dk.nm c.x<Dk.nm d.x:=e
    rw [if_neg e,if_neg e',List.map_cons,ins_x c l]
section
variable {S S':SimS} {p p':List By} {Ws:List (Nat→By)} {W W':Nat→By}
theorem inv_overlay (h:Inv S p Ws W) (hj:S.j=.none) {nm:By} {c:Cd} (hcx:c.x=⟨nm,S.s,newI 1 S.n 60⟩) (he:chAddE S.L nm S.s p=0) :
 Inv { S with L:=nlIns Cd.nm c S.L,s:=nm } (S.s :: p) Ws W:=by
 have hO:=h.ok
 obtain ⟨d0,hd0,hdm,_⟩:=hO.find
 have hsn:S.s≠[]:=by rw [←(nlFind_mem hd0).2];exact hO.nnl d0 hdm
 unfold chAddE at he
 have hok:okName nm=true:=by
  cases e:okName nm with
  | true=>rfl
  | false=>rw [if_pos e] at he;cases he
 rw [if_neg (by rw [hok];decide)] at he
 have h2:¬((fK S.L nm).isSome=true∨16≤S.L.length):=fun e=>by rw [if_pos e] at he;cases he
 rw [if_neg h2] at he
 have h3:¬(S.s≠[]∧8<p.length+1):=fun e=>by rw [if_pos e] at he;cases he
 have hfn:fK S.L nm=none:=by
  cases e:fK S.L nm with
  | none=>rfl
  | some x=>exact absurd (.inl (by rw [e];rfl)) h2
 have hcn:Dk.nm c.x=nm:=by rw [hcx]
 have hdn:nlFind Dk.nm (dkS S) (Dk.nm c.x)=none:=by
  rw [hcn]
  show fD (dkS S) nm=none
  rw [fK_D,hfn]
  rfl
 have hdk:dkS { S with L:=nlIns Cd.nm c S.L,s:=nm }=nlIns Dk.nm c.x (dkS S):=ins_x c S.L
 have hfd:∀t,fD (nlIns Dk.nm c.x (dkS S)) t=if t=nm then some c.x else fD (dkS S) t:=fun t=>by
  have:=nlFind_ins (nm:=Dk.nm) hO.ok.rising hdn t
  rw [hcn] at this
  exact this
 have hold:∀t d,fD (dkS S) t=some d→fD (nlIns Dk.nm c.x (dkS S)) t=some d:=fun t d hd=>by
  rw [hfd,if_neg]
  ·exact hd
  ·rintro rfl
   rw [fK_D,hfn] at hd
   cases hd
 have hpath:∀{t:By} {q:List By},IsPath (dkS S) t q→IsPath (nlIns Dk.nm c.x (dkS S)) t q:=fun hq=>hq.same fun t d hd=>⟨d,hold t d hd,rfl⟩
 have hnew:IsPath (nlIns Dk.nm c.x (dkS S)) nm (S.s :: p):=⟨⟨c.x,by rw [hfd,if_pos rfl],by rw [hcx],hsn⟩,hpath hO.path⟩
 have hO':OkW { S with L:=nlIns Cd.nm c S.L,s:=nm } (S.s :: p):=by
  refine ⟨?_,by rw [show ({ S with L:=nlIns Cd.nm c S.L,s:=nm }:SimS).L.map (·.x)=_ from hdk];exact hnew,hO.n,?_⟩
  ·rw [show ({ S with L:=nlIns Cd.nm c S.L,s:=nm }:SimS).L.map (·.x)=_ from hdk]
   refine ⟨nlIns_rising c.x hO.ok.rising (nlFind_none.1 hdn),fun d hd=>?_,fun d hd=>?_,fun d hd=>?_,?_⟩
   ·rcases mem_nlIns.1 hd with rfl | hd
    ·rw [hcx]
     have:=hO.n
     refine ⟨newI_ok (by decide) (by omega) (by decide),rfl,by simp [newI],by simp [newI],rfl⟩
    ·exact hO.ok.img d hd
   ·rcases mem_nlIns.1 hd with rfl | hd
    ·rw [hcx];exact hok
    ·exact hO.ok.names d hd
   ·rcases mem_nlIns.1 hd with rfl | hd
    ·rw [hcn]
     have:p.length+1≤8:=Nat.le_of_not_lt fun hlt=>h3 ⟨hsn,hlt⟩
     exact ⟨_,hnew,by simpa using this⟩
    ·obtain ⟨q,h4,h5⟩:=hO.ok.path d hd
     exact ⟨q,hpath h4,h5⟩
   ·rw [nlIns_len]
    have:¬16≤S.L.length:=fun e=>h2 (.inr e)
    have hl:(dkS S).length=S.L.length:=List.length_map _
    omega
  ·have:p.length+1≤8:=Nat.le_of_not_lt fun hlt=>h3 ⟨hsn,hlt⟩
   simpa using this
 have hv:∀k,vw { S with L:=nlIns Cd.nm c S.L,s:=nm } (S.s :: p) k=vw S p k:=fun k=>by
  unfold vw
  rw [hdk,show ({ S with L:=nlIns Cd.nm c S.L,s:=nm }:SimS).s=nm from rfl]
  rw [seenC_some (d:=c.x) (by rw [hfd,if_pos rfl])]
  have e0:(c.x.M.t.getD k zS).1=0:=by
   rw [hcx]
   show ((List.replicate S.n zS).getD k zS).1=0
   rw [List.getD_eq_getElem?_getD,List.getElem?_replicate]
   split <;> rfl
  unfold visC
  rw [if_pos e0]
  refine seenC_same fun t ht=>?_
  obtain ⟨d,hd⟩:=hO.path.mem ht
  rw [hold t d hd,hd]
 refine h.re ⟨rfl,rfl,rfl,rfl⟩ hO' h.Wl h.E (by unfold JobOk;rw [show ({ S with L:=nlIns Cd.nm c S.L,s:=nm }:SimS).j=S.j from rfl,hj];trivial) (fun h1 h2 k hk hd=>?_)
 rw [hv]
 exact h.clean h1 h2 k hk hd
theorem inv_merge (h:Inv S p Ws W) (hj:S.j=.none) {b:By} {r:List By} (hp:p=b :: r) (jb mp:Nat):Inv { S with j:=.merge jb mp b (kindsL (dkS S) S.n S.s S.n) false } p Ws W:=by
 refine h.re ⟨rfl,rfl,rfl,rfl⟩ ⟨h.ok.ok,h.ok.path,h.ok.n,h.ok.deep⟩ h.Wl h.E ⟨rfl,kindsL_len _ _ _ _,r,hp,fun k hk hl hkd=>?_⟩ (fun _ h2 k hk hd=>?_)
 ·rw [kindsL_at hk,decide_eq_true hk,Bool.true_and] at hl
  have:kindD (dkS S) S.s k=0:=by simpa using hl
  exact absurd this hkd
 ·exact h.clean (by rw [hj];decide) h2 k hk hd
theorem inv_pull (h:Inv S p Ws W) (hj:S.j=.none) (jb:Nat):Inv { S with j:=.pull jb false } p Ws W :=
 h.re ⟨rfl,rfl,rfl,rfl⟩ ⟨h.ok.ok,h.ok.path,h.ok.n,h.ok.deep⟩ h.Wl h.E rfl fun _ h2 k hk hd=>h.clean (by rw [hj];decide) h2 k hk hd
theorem inv_whole (h:Inv S p Ws W) {nm:By} (hnm:okName nm=true) (hnew:∀y∈S.ys,y.1.nm≠nm) (jb lm gm:Nat):Inv (pwS S nm jb lm gm) p Ws (vw S p):=by
 refine ⟨⟨h.ok.ok,h.ok.path,h.ok.n,h.ok.deep⟩,h.good,h.ns,h.len,h.cont,fun k _=>vw_len h.ok k,h.E,⟨rfl,?_⟩,fun h1=>absurd rfl h1⟩
 refine ⟨dirS_len _ _ _,rfl,rfl,hnm,hnew,.inl ⟨rfl,rfl⟩,fun k hk=>⟨fun _=>rfl,(fun x hx=>by cases hx),fun h1 _=>?_,fun _=>rfl⟩⟩
 rw [dirS_at (show k<S.n from hk)] at h1
 cases h1
theorem inv_part (h:Inv S p Ws W) (hj:S.j=.none) {nm:By} (hnm:okName nm=true) (hnew:∀y∈S.ys,y.1.nm≠nm) {c:Cel} (hE:S.E=[c]) (hys:S.ys≠[]) (hl:lastN S.ys≠[]) (jb lm gm tb bb:Nat):Inv (ppS S c nm nM jb lm gm tb bb) p Ws (vw S p):=by
 refine ⟨⟨h.ok.ok,h.ok.path,h.ok.n,h.ok.deep⟩,h.good,h.ns,h.len,h.cont,fun k _=>vw_len h.ok k,h.E,⟨rfl,?_⟩,fun h1=>absurd rfl h1⟩
 refine ⟨dirS_len _ _ _,rfl,rfl,hnm,hnew,.inr ⟨hl,rfl,hys,rfl,_,rfl,by simp;rfl⟩,fun k hk=>⟨fun _=>rfl,(fun x hx=>by cases hx),fun h1 _=>⟨hl,?_⟩,fun _=>rfl⟩⟩
 rw [dirS_at (show k<S.n from hk)] at h1
 have hd:dirtyE S.E S.n k=false:=by rw [hE];exact h1
 rw [h.clean (by rw [hj];decide) hys k hk hd]
 show baseF (S.ys.map (·.1)).reverse (finB (ppS S c nm nM jb lm gm tb bb) []) k=_
 unfold baseF finB lastC
 show (if lastN S.ys=[] then _ else _)=_
 rw [if_neg hl]
 rfl
end
theorem seen_quiet {D:List Dk} {z k:Nat}:∀{p:List By},(∀t∈p,kindD D t k=0)→seenC D z p k=zBy z
 | [],_=>rfl
 | t :: r,h=>by
   have ih:=seen_quiet (D:=D) (z:=z) (k:=k) (p:=r) fun x hx=>h x (List.mem_cons_of_mem _ hx)
   have h1:=h t List.mem_cons_self
   unfold kindD at h1
   simp only [seenC]
   cases e:fD D t with
   | none=>exact ih
   | some d =>
     rw [e] at h1
     simp only at h1 ⊢
     unfold visC
     rw [if_pos h1]
     exact ih
theorem touch_one {k j:Nat} (h:j≠k):touch ((k*2:Nat):Int) 2 j=false:=by
 unfold touch
 rw [Bool.and_eq_false_iff,decide_eq_false_iff_not,decide_eq_false_iff_not]
 omega
theorem cnt_zero {l:List Bool} (h:cnt l=0) (k:Nat):l.getD k false=false:=by
 cases e:l.getD k false with
 | false=>rfl
 | true =>
   have hm:=onL_mem.2 e
   have:(onL l).length=0:=by rw [onL_cnt];exact h
   rw [List.eq_nil_of_length_eq_zero this] at hm
   cases hm
theorem set_getD {l:List Bool} {k j:Nat}:(l.set k false).getD j false=if j=k then false else l.getD j false:=by
 rw [List.getD_eq_getElem?_getD,List.getD_eq_getElem?_getD,List.getElem?_set]
 by_cases e:k=j
 ·subst e
  rw [if_pos rfl,if_pos rfl]
  split <;> rfl
 ·rw [if_neg e,if_neg (fun h=>e h.symm)]
section
variable {S S':SimS} {p p':List By} {Ws:List (Nat→By)} {W W':Nat→By}
theorem SameS.clean (hs:SameS S S') (h:Inv S p Ws W) (hk3:S.j.kind≠3) (hE:S'.E=S.E) (hv:∀k,k<S.n→vw S' p' k=vw S p k):S'.j.kind≠3→S'.ys≠[]→∀k,k<S'.n→dirtyE S'.E S'.n k=false→vw S' p' k=lastC S' k:=by
 rw [hs.n,hE]
 intro _ h2 k hk hd
 rw [hv k hk,h.clean hk3 (by rw [←hs.ys];exact h2) k hk hd]
 unfold lastC
 rw [hs.ys]
theorem inv_stepPull (h:Inv S p Ws W) {jb:Nat} (hj:S.j=.pull jb false) {c:Cd} (hc:fK S.L S.s=some c) {i:Int} {ov:Bool} {S1:SimS} (hp:puStep S p c jb i ov S1) :
 ∃p',Inv (goneS ov S1) p' Ws W∧SameS S (goneS ov S1)∧(goneS ov S1).j.kind≠3:=by
 have hO:=h.ok
 have hcm:=(nlFind_mem hc).1
 have hI:=hO.ims c hcm
 have hk3:S.j.kind≠3:=by rw [hj];simp [JobS.kind]
 rcases hp with ⟨k,p',hk,rfl,rfl,rfl⟩ | ⟨hq,rfl,rfl,rfl⟩
 ·have hbel:=hO.ok.bel (List.mem_map.2 ⟨c,hcm,rfl⟩) p
  have hL:Like c.x.M (puRes S p c k).2:=writeE_like hI.1 hbel
  have hput:=hO.put hc (p':=p') hL
  have hlen:(seenC (dkS S) 32 (S.s :: p) k).length=32:=vw_len hO k
  have hv:∀j,j<S.n→vw { S with L:=setK S.L S.s p' (puRes S p c k).2,j:=.pull jb false } p j=vw S p j:=fun j hjn=>by
   have e:vw { S with L:=setK S.L S.s p' (puRes S p c k).2,j:=.pull jb false } p j=visC (puRes S p c k).2 j (seenC (dkS S) 32 p j):=by
    unfold vw
    rw [show dkS { S with L:=setK S.L S.s p' (puRes S p c k).2,j:=.pull jb false }=setM (dkS S) S.s (puRes S p c k).2 from setK_x _ _ _ _]
    exact seen_setM_top hO.path
   rw [e]
   by_cases hcase:(puRes S p c k).1≠0∨j≠k
   ·rw [vw_top hc]
    refine (write_out hI.1 hI.2.1 hbel (hcase.imp id fun hne=>?_)).2 _
    rw [hlen]
    exact touch_one hne
   ·have h0:(puRes S p c k).1=0:=Decidable.not_not.1 fun e=>hcase (.inl e)
    have hjk:j=k:=Decidable.not_not.1 fun e=>hcase (.inr e)
    subst hjk
    have:=write_at hI.1 hI.2.1 hbel (by rw [hI.2.2];exact hk) hlen h0
    rw [belL_at,if_pos hk] at this
    exact this
  have hs:SameS S { S with L:=setK S.L S.s p' (puRes S p c k).2,j:=.pull jb false }:=⟨rfl,rfl,rfl,rfl⟩
  refine ⟨p,?_,hs,by simp [goneS,JobS.kind]⟩
  show Inv { S with L:=setK S.L S.s p' (puRes S p c k).2,j:=.pull jb false } p Ws W
  exact h.re hs ⟨hput.ok,hput.path,hput.n,hput.deep⟩ h.Wl h.E rfl (hs.clean h hk3 rfl hv)
 ·have hdk:dkS { S with L:=offK S.L S.s,j:=.none }=offD (dkS S) S.s:=offK_x _ _
  have hfd:fD (dkS S) S.s=some c.x:=by rw [fK_D,hc];rfl
  have hs:SameS S { S with L:=offK S.L S.s,j:=.none }:=⟨rfl,rfl,rfl,rfl⟩
  refine ⟨[],?_,hs,by simp [goneS,JobS.kind]⟩
  show Inv { S with L:=offK S.L S.s,j:=.none } [] Ws W
  refine h.re hs ⟨?_,?_,hO.n,Nat.zero_le _⟩ h.Wl h.E trivial (hs.clean h hk3 rfl fun k hk=>?_)
  ·rw [show ({ S with L:=offK S.L S.s,j:=.none }:SimS).L.map (·.x)=_ from hdk]
   refine ⟨nlMod_rising hO.ok.rising fun _=>rfl,fun d hd=>?_,fun d hd=>?_,fun d hd=>?_,by unfold offD;rw [nlMod_len];exact hO.ok.few⟩
   ·obtain ⟨e,he,rfl⟩:=mem_nlMod.1 hd
    have:=hO.ok.img e he
    split <;> exact this
   ·obtain ⟨e,he,rfl⟩:=mem_nlMod.1 hd
    have:=hO.ok.names e he
    split <;> exact this
   ·obtain ⟨e,he,rfl⟩:=mem_nlMod.1 hd
    obtain ⟨q,g1,g2⟩:=hO.ok.path e he
    obtain ⟨q',g3,g4⟩:=path_off (s:=S.s) g1
    refine ⟨q',?_,by omega⟩
    rw [show (if e.nm=S.s then { e with bk:=[] } else e).nm=e.nm from by split <;> rfl]
    exact g3
  ·rw [show ({ S with L:=offK S.L S.s,j:=.none }:SimS).L.map (·.x)=_ from hdk]
   exact path_off_self hfd
  ·unfold vw
   rw [hdk]
   show seenC (offD (dkS S) S.s) 32 [S.s] k=seenC (dkS S) 32 (S.s :: p) k
   rw [seenC_some (d:={ c.x with bk:=[] }) (by rw [fD_off,hfd];simp),seenC_some hfd]
   show visC c.x.M k (zBy 32)=visC c.x.M k (seenC (dkS S) 32 p k)
   by_cases h0:kindD (dkS S) S.s k=0
   ·rw [seen_quiet (hq k hk h0)]
   ·rw [kindD_of hc] at h0
    unfold visC
    rw [if_neg h0,if_neg h0]
end
section
variable {S S':SimS} {p p':List By} {Ws:List (Nat→By)} {W W':Nat→By}
theorem inv_stepMerge {b:By} {r:List By} (h:Inv S (b :: r) Ws W) {jb mp:Nat} {l:List Bool} (hj:S.j=.merge jb mp b l false) {c cB:Cd} (hc:fK S.L S.s=some c) (hcB:fK S.L b=some cB) {i:Int} {ov:Bool} {S1:SimS} (hp:mgStep S b r c cB jb mp l i ov S1) :
 ∃p',Inv (goneS ov S1) p' Ws W∧SameS S (goneS ov S1)∧(goneS ov S1).j.kind≠3:=by
 have hO:=h.ok
 have hcm:=(nlFind_mem hc).1
 have hI:=hO.ims c hcm
 have hbm:=(nlFind_mem hcB).1
 have hIB:=hO.ims cB hbm
 have hk3:S.j.kind≠3:=by rw [hj];simp [JobS.kind]
 have hJ:=h.job
 unfold JobOk at hJ
 simp only [hj] at hJ
 obtain ⟨_,hl,r',hr',hm⟩:=hJ
 injection hr' with _ hr'
 subst hr'
 have hsb:S.s≠b:=fun e=>hO.path.self (by rw [e];exact List.mem_cons_self)
 rcases hp with ⟨h0,rfl,rfl,p',rfl⟩ | ⟨k,hk,hkd,rfl,rfl,p',rfl⟩ | ⟨k,hk,hkd,rfl,rfl,rfl⟩
 ·have hd:=fun k=>disc_hole hI.1 hI.2.1 k
  rw [hI.2.2] at hd
  have hput:=hO.put hc (p':=p') (hd 0).2
  have hs:SameS S { S with L:=setK S.L S.s p' (discardE c.x.M 0 ((S.n:Int)*2)).2,j:=.none }:=⟨rfl,rfl,rfl,rfl⟩
  refine ⟨b :: r,?_,hs,by simp [goneS,JobS.kind]⟩
  show Inv { S with L:=setK S.L S.s p' (discardE c.x.M 0 ((S.n:Int)*2)).2,j:=.none } (b :: r) Ws W
  refine h.re hs ⟨hput.ok,hput.path,hput.n,hput.deep⟩ h.Wl h.E trivial (hs.clean h hk3 rfl fun k hk=>?_)
  have e:vw { S with L:=setK S.L S.s p' (discardE c.x.M 0 ((S.n:Int)*2)).2,j:=.none } (b :: r) k=visC (discardE c.x.M 0 ((S.n:Int)*2)).2 k (seenC (dkS S) 32 (b :: r) k):=by
   unfold vw
   rw [show dkS { S with L:=setK S.L S.s p' (discardE c.x.M 0 ((S.n:Int)*2)).2,j:=.none }=setM (dkS S) S.s (discardE c.x.M 0 ((S.n:Int)*2)).2 from setK_x _ _ _ _]
   exact seen_setM_top hO.path
  rw [e]
  have e2:visC (discardE c.x.M 0 ((S.n:Int)*2)).2 k (seenC (dkS S) 32 (b :: r) k)=seenC (dkS S) 32 (b :: r) k:=by
   unfold visC
   rw [if_pos (hd k).1]
  rw [e2]
  by_cases hkk:kindD (dkS S) S.s k=0
  ·rw [vw_top hc]
   rw [kindD_of hc] at hkk
   unfold visC
   rw [if_pos hkk]
  ·exact hm k hk (cnt_zero h0 k) hkk
 ·have hkn:k<S.n:=by rw [←hl];exact onL_lt hk
  have hbel:=hO.ok.bel (List.mem_map.2 ⟨cB,hbm,rfl⟩) r
  have hlen:(seenC (dkS S) 32 (S.s :: b :: r) k).length=32:=vw_len hO k
  have hk12:=kind012 hO.ims hc k
  have hL:Like cB.x.M (mgR S b r cB k).2:=by
   unfold mgR mgRes
   split
   ·exact writeE_like hIB.1 hbel
   ·exact zeroE_like hIB.1 hbel
  have hout:∀j,((mgR S b r cB k).1≠0∨j≠k)→∀u,visC (mgR S b r cB k).2 j u=visC cB.x.M j u:=fun j hc1=>by
   unfold mgR mgRes at hc1 ⊢
   split at hc1
   ·rename_i e1
    rw [if_pos e1]
    refine (write_out hIB.1 hIB.2.1 hbel (hc1.imp id fun hne=>?_)).2
    rw [hlen]
    exact touch_one hne
   ·rename_i e1
    rw [if_neg e1]
    have hq:=fun (hne:j≠k)=>touch_one hne
    refine (zero_out hIB.1 hIB.2.1 hbel (hc1.imp id fun hne=>?_)).2
    exact hq hne
  have hat:(mgR S b r cB k).1=0→visC (mgR S b r cB k).2 k (seenC (dkS S) 32 r k)=vw S (b :: r) k:=fun h0=>by
   have hbk:(belL (dkS S) S.n r).getD k []=seenC (dkS S) 32 r k:=by rw [belL_at,if_pos hkn]
   rw [←hbk]
   unfold mgR mgRes at h0 ⊢
   split at h0
   ·rename_i e1
    rw [if_pos e1]
    exact write_at hIB.1 hIB.2.1 hbel (by rw [hIB.2.2];exact hkn) hlen h0
   ·rename_i e1
    have hz:=zero_at (k:=k) hIB.1 hIB.2.1 hbel (by rw [hIB.2.2];exact hkn) h0
    rw [if_neg e1]
    refine hz.trans ?_
    have e2:(c.x.M.t.getD k zS).1=2:=by
     rw [←kindD_of hc]
     rcases hk12 with e | e | e
     ·exact absurd e hkd
     ·exact absurd e e1
     ·exact e
    rw [vw_top hc]
    unfold visC conC conS
    rw [if_neg (by rw [e2];decide),if_neg (by rw [e2];decide)]
    unfold Img.z
    rw [hI.2.1]
  have hput:=hO.put hcB (p':=p') hL
  have hs:SameS S { S with L:=setK S.L b p' (mgR S b r cB k).2,j:=.merge jb mp b (if (mgR S b r cB k).1=0 then l.set k false else l) false }:=⟨rfl,rfl,rfl,rfl⟩
  have hdk:dkS { S with L:=setK S.L b p' (mgR S b r cB k).2,j:=.merge jb mp b (if (mgR S b r cB k).1=0 then l.set k false else l) false }=setM (dkS S) b (mgR S b r cB k).2:=setK_x _ _ _ _
  have htop:∀j,seenC (setM (dkS S) b (mgR S b r cB k).2) 32 (b :: r) j=visC (mgR S b r cB k).2 j (seenC (dkS S) 32 r j):=fun j=>seen_setM_top hO.path.2
  have hold:∀j,seenC (dkS S) 32 (b :: r) j=visC cB.x.M j (seenC (dkS S) 32 r j):=fun j=>seenC_some (by rw [fK_D,hcB];rfl)
  have hfs:fD (setM (dkS S) b (mgR S b r cB k).2) S.s=some c.x:=by rw [fD_setM,fK_D,hc];simp [hsb]
  have hkin:∀j,kindD (setM (dkS S) b (mgR S b r cB k).2) S.s j=kindD (dkS S) S.s j:=fun j=>by
   rw [kindD_of hc]
   unfold kindD
   rw [hfs]
  have hv:∀j,j<S.n→seenC (setM (dkS S) b (mgR S b r cB k).2) 32 (S.s :: b :: r) j=vw S (b :: r) j:=fun j hjn=>by
   rw [seenC_some hfs,vw_top hc]
   by_cases hcase:(mgR S b r cB k).1≠0∨j≠k
   ·rw [htop,hout j hcase,←hold]
   ·have hjk:j=k:=Decidable.not_not.1 fun e=>hcase (.inr e)
    subst hjk
    rw [kindD_of hc] at hkd
    unfold visC
    rw [if_neg hkd,if_neg hkd]
  refine ⟨b :: r,?_,hs,by simp [goneS,JobS.kind]⟩
  show Inv { S with L:=setK S.L b p' (mgR S b r cB k).2,j:=.merge jb mp b (if (mgR S b r cB k).1=0 then l.set k false else l) false } (b :: r) Ws W
  refine h.re hs ⟨hput.ok,hput.path,hput.n,hput.deep⟩ h.Wl h.E ⟨rfl,?_,r,rfl,?_⟩ (hs.clean h hk3 rfl fun j hjn=>?_)
  ·show (if (mgR S b r cB k).1=0 then l.set k false else l).length=S.n
   split
   ·rw [List.length_set];exact hl
   ·exact hl
  ·intro j hjn hlj hkj
   unfold vw
   rw [hdk] at hkj ⊢
   show seenC (setM (dkS S) b (mgR S b r cB k).2) 32 (b :: r) j=seenC (setM (dkS S) b (mgR S b r cB k).2) 32 (S.s :: b :: r) j
   rw [hv j hjn]
   replace hkj:kindD (setM (dkS S) b (mgR S b r cB k).2) S.s j≠0:=hkj
   rw [hkin] at hkj
   rw [htop]
   by_cases hr0:(mgR S b r cB k).1=0
   ·rw [if_pos hr0,set_getD] at hlj
    by_cases e:j=k
    ·subst e
     exact hat hr0
    ·rw [if_neg e] at hlj
     rw [hout j (.inr e),←hold]
     exact hm j hjn hlj hkj
   ·rw [if_neg hr0] at hlj
    rw [hout j (.inl hr0),←hold]
    exact hm j hjn hlj hkj
  ·unfold vw
   rw [hdk]
   exact hv j hjn
 ·have hs:SameS S { S with L:=S.L,j:=.merge jb mp b (l.set k false) false }:=⟨rfl,rfl,rfl,rfl⟩
  refine ⟨b :: r,?_,hs,by simp [goneS,JobS.kind]⟩
  show Inv { S with L:=S.L,j:=.merge jb mp b (l.set k false) false } (b :: r) Ws W
  refine h.re hs ⟨hO.ok,hO.path,hO.n,hO.deep⟩ h.Wl h.E ⟨rfl,by rw [List.length_set];exact hl,r,rfl,fun j hjn hlj hkj=>?_⟩ (hs.clean h hk3 rfl fun j hjn=>rfl)
  rw [set_getD] at hlj
  by_cases e:j=k
  ·subst e
   exact absurd hkd hkj
  ·rw [if_neg e] at hlj
   exact hm j hjn hlj hkj
end
end Go.Proofs.YtffnihooekbcnaaGreat
namespace Go.Proofs.YtffnihooekbcnaaGreat
open Go.RowKit Go.Maps
attribute [local go_sem] mapAt_alloc mapAt_setCell mapAt_drew mapAt_drewN cells_str store_str eql_str neq_str guard_str len_str
section
variable {w w':World} {o:Nat→Prop} {lb:Nat} {v:Value} {ys:List Bkv}
def lsResPost (w:World) (b:By) (e:Ending) (w':World):Prop:=∃u,e=.returned (.tuple #[u,.int .i64 0])∧SlY w' u b∧(∀k,u.ownBlock=some k→w.heap.size≤k)∧Fr [] w w'
theorem lsRes_step (n i:Nat) (h:LstW w lb o v ys) (hg:∀y∈ys,GoodB y.1∧y.1.n=n) (hn:1≤n) (hi:i<ys.length) (hfd:fdI ys (ys.getD i zBv).1.nm=some i) (f:Nat→By) (hf:∀k,k<n→(f k).length=32)
 (hroot:(ys.getD i zBv).1.pa=[]→∀k,f k=zBy 32)
 (hIH:(ys.getD i zBv).1.pa≠[]→∀X,Fr [] w X→Calls Tryz.prog 12 #[.pointer (some ⟨lb,0,none⟩),strL (ys.getD i zBv).1.pa] X (lsResPost X (catN n f))) :
 Calls Tryz.prog 12 #[.pointer (some ⟨lb,0,none⟩),strL (ys.getD i zBv).1.nm] w (lsResPost w (catN n ((ys.getD i zBv).1.ps.foldl upF f))):=by
 obtain ⟨va,vcap,rfl,hvl,hvm,_⟩:=SlF.open h.sl
 have hym:=getD_memB hi zBv
 obtain ⟨hgy,hyn⟩:=hg _ hym
 have hby:=h.one _ hym
 have kF:=lsFind_calls (ys.getD i zBv).1.nm h
 rw [hfd] at kF
 unfold fdV at kF
 simp only at kF
 have h1:=fun X (hX:Fr [] w X)=>SlF.bkAt (h.fr0 hX).sl hi
 have cl:=fun X (hX:Fr [] w X)=>(h.fr0 hX).blk.cell
 obtain ⟨pa,pc,hpv,hpl,hpm,_⟩:=SlF.open hby.pcs.sl
 have hps:=hby.pcs.sl
 have hpb:=hby.pcs.byt
 have heq:=hby.ps
 have hup:=hgy.up
 have hins:=hgy.ins
 have hn256:=hgy.n
 have hplen:=hgy.plen
 rw [heq] at hins hplen ⊢
 rw [unP_len] at hplen
 rw [hyn] at hins hplen hn256
 simp only [hyn] at h1
 rw [hpv] at hps
 simp only [hpv] at h1
 clear hup hby
 generalize hyy:(ys.getD i zBv)=y at *
 clear hyy
 generalize y.2.2=xs at *
 obtain ⟨N,hN⟩:∃S,Hid (strL y.1.nm=Value.string S):=⟨_,hidIt rfl⟩
 obtain ⟨Q,hQ⟩:∃S,Hid (strL y.1.pa=Value.string S):=⟨_,hidIt rfl⟩
 have he:Value.string ⟨#[]⟩=strL []:=rfl
 have hq:binOp .neq 9 (.string Q) (strL [])=pure (.bool (!decide (y.1.pa=[]))):=by rw [←hQ.out,neq_str]
 have hgd:∀(op:BinOp) (x y':Operand) (w:World),(eqGuard op 9 x y' (.string Q) (strL [])).run Tryz.prog w=.ok () w:=fun op x y' w=>by rw [←hQ.out];exact guard_str _ _ _ _ _ _
 rw [hQ.out] at hIH
 rw [hN.out] at kF ⊢
 simp only [hN.out,hQ.out] at h1
 have hlt1:=hidIt hi
 have hiI:(i:Int)<(ys.length:Int):=by omega
 go_enter Tryz.func12,Tryz.ntmps12
 rw [he]
 go_wp2_with fail
 refine kF.mono ?_
 rintro e w1 ⟨rfl,hf1⟩
 clear kF
 have c1:=cl _ hf1
 obtain ⟨b,off,hva,_,d0,d1,d2,d3,d4⟩:=h1 _ hf1
 subst hva
 have hi0:¬(i:Int)<0:=by omega
 clear h1
 go_wp2_with fail
 have BA:=(Blk.new w1 [.string N,.string Q,.int .i64 1,.int .i64 (n:Int),.slice pa xs.length pc] 60)
 have hfa:=(Fr.refl [] w1).alloc (.cells #[.string N,.string Q,.int .i64 1,.int .i64 (n:Int),.slice pa xs.length pc] 60)
 obtain ⟨tb,htb⟩:∃z,Hid (w1.heap.size=z):=⟨_,hidIt rfl⟩
 rw [htb.out] at BA ⊢
 have hz1:=hf1.size
 have htw:w.heap.size≤tb:=by have:=htb.out;omega
 have hfw:=hf1.trans0 hfa
 generalize w1.alloc (.cells #[.string N,.string Q,.int .i64 1,.int .i64 (n:Int),.slice pa xs.length pc] 60)=W2 at *
 have BAd:=BA.drew
 obtain ⟨K,hK⟩:∃K:Nat,Hid (n*32=K):=⟨_,hidIt rfl⟩
 have hmul:(n:Int)*32=(K:Int):=by have:=hK.out;omega
 have hKw:IntKind.i64.wrap (K:Int)=(K:Int):=IntWalk.i64_in _ (by have:=hK.out;omega)
 clear d0 d1 d2 d3 d4 c1
 refine wp_region_G (fun X=>Fr [] W2.drew X) [(true,0),(true,1),(true,2),(false,3),(true,4),(false,5),(true,6)] (by as_aux_lemma=>kernel_rfl) (by as_aux_lemma=>kernel_rfl) (Fr.refl _ _) ?_
 simp only [inOrder,jD,jE,jF,jG]
 iterate 1 (refine wpG_pure fun K hK=>?_;go_simp;refine hK _ ?_;clear hK K)
 refine wpG_val (.int .i64 (n:Int)) (by first | rfl | go_simp) (fun X hX=>by have cc:=(BAd.fr0 hX).cell;go_simp) ?_
 simp only [Act.put,jA,jB,jC]
 refine wpG_val (.agg #[.string N,.string Q,.int .i64 1,.int .i64 (n:Int),.slice pa xs.length pc]) (by first | rfl | go_simp) (fun X hX=>by have cc:=(BAd.fr0 hX).cell;go_simp) ?_
 simp only [Act.put,jA,jB,jC]
 refine wpG_one fun K hK=>?_
 go_simp
 refine (lsBytes_calls N Q (n:Int) _ _ _ _).mono ?_
 rintro e x4 ⟨rfl,hf4⟩
 refine hK _ _ (hf4) ?_
 clear hK K
 iterate 1 (refine wpG_pure fun K hK=>?_;go_simp;refine hK _ ?_;clear hK K)
 obtain ⟨x5,hmk,hmo,hmg⟩:=makeY K x4 (by have:=hK.out;omega)
 have hf5:Fr [] x4 x5:=Fr.of_grown hmg
 have hf45:Fr [] W2.drew x5:=hf4.trans0 hf5
 refine wpG_one fun K' hK'=>?_
 go_simp
 refine hK' _ _ hf45 ?_
 clear hK' K'
 iterate 1 (refine wpG_pure fun K hK=>?_;go_simp;refine hK _ ?_;clear hK K)
 refine wpG_end ?_
 obtain ⟨g,hg5⟩:∃g,Hid (x4.heap.size=g):=⟨_,hidIt rfl⟩
 rw [hg5.out] at hmo ⊢
 have B5:=BAd.fr0 hf45
 have hfw5:Fr [] w x5:=hfw.drew.trans0 hf45
 have htg:tb<g:=by have:=(BAd.fr0 hf4).lt;have:=hg5.out;omega
 have hgl:=(hmo.lt g rfl).2
 have c5:=B5.cell
 clear hmk hmg hf4 hf5 hf45 BAd BA hfa
 cases hpd:decide (y.1.pa=[]) with
 | true =>
 rw [hpd] at hq
 have hr:=hroot (of_decide_eq_true hpd)
 have hrow:x5.ownsRow g 5 1 (.slice (some ⟨g,0,none⟩) K K) K ((catN n ((unP (xs.take 0)).foldl upF f)).flatMap byC):=by
  have e1:catN n ((unP (xs.take 0)).foldl upF f)=zBy (n*32):=by
   rw [←catN_zero]
   exact catN_congr fun k _=>hr k
  rw [e1,hK.out]
  exact hmo
 have hBW:=B5
 have hfW:=hfw5
 clear hIH hroot hpd hmo
 go_wp2_with fail
 have hlenf:∀j,(∀k,k<n→(((unP (xs.take j)).foldl upF f) k).length=32):=fun j=>fold_len _ _ hf fun p hp=>by
  unfold unP at hp
  obtain ⟨z,hz,rfl⟩:=List.mem_map.1 hp
  exact (hins _ (List.mem_map.2 ⟨z,List.mem_of_mem_take hz,rfl⟩)).2
 go_loopw [47] (fun i wr=>∃j:Nat,j≤xs.length∧i=.int .i64 (j:Int)∧wr.ownsRow g 5 1 (.slice (some ⟨g,0,none⟩) K K) K ((catN n ((unP (xs.take j)).foldl upF f)).flatMap byC)∧Blk wr tb [.string N,.string Q,.int .i64 1,.int .i64 (n:Int),.slice pa xs.length pc] 60∧Fr [] w wr) (fun i _=>xs.length - (intOf i).toNat)
 case atStart=>exact ⟨0,Nat.zero_le _,rfl,hrow,hBW,hfW⟩
 case round =>
 clear hrow hBW hfW
 obtain ⟨j,hj,rfl,hrow,hB,hF⟩:=hrel
 have hclen:=catN_len (hlenf j)
 by_cases hlt:j<xs.length
 case neg =>
  have hlt':¬(j:Int)<(xs.length:Int):=by omega
  rw [List.take_of_length_le (by omega)] at hrow hclen
  have hsl:SlY wr (.slice (some ⟨g,0,none⟩) K K) (catN n ((unP xs).foldl upF f)):=by
   refine SlF.of_owns (base:=g) (e:=5) (size:=1) ?_
   rw [hclen,hK.out]
   exact hrow
  have hfin:=hidIt (And.intro hsl hF)
  clear hsl hF hrow hclen hlenf hB
  go_wp2
  go_ret2
  refine ⟨_,rfl,hfin.out.1,fun k hk=>?_,hfin.out.2⟩
  have e:g=k:=by simpa [Value.ownBlock] using hk
  omega
 obtain ⟨bp,op,hpe,_,q0,q1⟩:=SlF.pcAt (SlF.fr0 hps hF) hlt
 subst hpe
 have hxm:=getD_memB hlt zPv
 obtain ⟨g1,_,_⟩:=hpb _ hxm
 have hi2:=hins _ (unP_at hlt)
 obtain ⟨ba,bc,hbv,_⟩:=SlF.open g1
 have htj:Hid ((unP (xs.take (j+1))).foldl upF f=upF ((unP (xs.take j)).foldl upF f) ((xs.getD j zPv).1,(xs.getD j zPv).2.1)):=hidIt (by
  rw [List.take_succ_eq_append_getElem hlt,List.getD_eq_getElem?_getD,List.getElem?_eq_getElem hlt]
  unfold unP
  rw [List.map_append,List.foldl_append]
  rfl)
 rw [hbv] at q1 g1
 simp only at hi2
 rw [hi2.2] at q1 g1
 generalize (xs.getD j zPv).1=C at *
 generalize (xs.getD j zPv).2.1=bs at *
 clear hbv hxm
 obtain ⟨D,hD⟩:∃D:Nat,Hid (C*32=D):=⟨_,hidIt rfl⟩
 have hDm:(C:Int)*32=(D:Int):=by have:=hD.out;omega
 have hDw:IntKind.i64.wrap (D:Int)=(D:Int):=IntWalk.i64_in _ (by have:=hD.out;omega)
 have hDK:D+32≤K:=by have:=hD.out;have:=hK.out;omega
 have hspl:=spl_cat (x:=bs) (hlenf j) hi2.2 hi2.1
 rw [hD.out,←htj.out] at hspl
 generalize hcc:catN n ((unP (xs.take j)).foldl upF f)=cc0 at *
 clear hcc
 have hfp:=(Fr.refl [] wr).alloc (.cells #[.int .i64 (C:Int),.slice ba 32 bc] 71)
 have BP:=Blk.new wr [.int .i64 (C:Int),.slice ba 32 bc] 71
 have hgw:=(hrow.lt g rfl).2
 obtain ⟨pb,hpbk⟩:∃z,Hid (wr.heap.size=z):=⟨_,hidIt rfl⟩
 have hpg:pb≠g:=by have:=hpbk.out;omega
 rw [hpbk.out] at BP
 have hrowA:=owns_fr hrow hfp (by simp)
 have hBA:=hB.fr0 hfp
 have hFA:=hF.trans0 hfp
 go_wp2_with fail
 rw [hpbk.out]
 generalize wr.alloc (.cells #[.int .i64 (C:Int),.slice ba 32 bc] 71)=A at *
 have BPd:=BP.drew
 have hBAd:=hBA.drew
 have hcut:=fun W=>cut_from (P:=Tryz.prog) (w:=W) 31 5 1 Tryz.underlying31 (by kernel_rfl) (some ⟨g,0,none⟩) K K D (by omega)
 have hsa:slAddr (some ⟨g,0,none⟩) K D 1=some ⟨g,D,none⟩:=by
  unfold slAddr
  rw [if_neg (by omega)]
  simp [Addr.add]
  exact fun h=>h.symm
 rw [hsa] at hcut
 clear q0 q1
 refine wp_region_G (fun X=>Fr [g] A.drew X) [(true,0),(true,1),(true,2),(true,3),(true,7),(true,8),(false,4),(true,5),(true,6),(false,9)] (by as_aux_lemma=>kernel_rfl) (by as_aux_lemma=>kernel_rfl) (Fr.refl _ _) ?_
 simp only [inOrder,jD,jE,jF,jG]
 iterate 2 (refine wpG_pure fun K hK=>?_;go_simp;refine hK _ ?_;clear hK K)
 refine wpG_val (.int .i64 (C:Int)) (by first | rfl | go_simp) (fun X hX=>by have cc:=(BPd.fr hX (by simpa using hpg)).cell;go_simp) ?_
 simp only [Act.put,jA,jB,jC]
 refine wpG_val (.agg #[.string N,.string Q,.int .i64 1,.int .i64 (n:Int),.slice (some ⟨bp,op,none⟩) xs.length pc]) (by first | rfl | go_simp) (fun X hX=>by have cc:=(hBAd.fr hX (by simp;omega)).cell;go_simp) ?_
 simp only [Act.put,jA,jB,jC]
 iterate 1 (refine wpG_pure fun K hK=>?_;go_simp;refine hK _ ?_;clear hK K)
 refine wpG_val (.slice ba 32 bc) (by first | rfl | go_simp) (fun X hX=>by have cc:=(BPd.fr hX (by simpa using hpg)).cell;go_simp) ?_
 simp only [Act.put,jA,jB,jC]
 refine wpG_one fun K hK=>?_
 go_simp
 refine (lsBytes_calls N Q (n:Int) _ _ _ _).mono ?_
 rintro e x6 ⟨rfl,hf6⟩
 refine hK _ _ (hf6.weak) ?_
 clear hK K
 iterate 2 (refine wpG_pure fun K hK=>?_;go_simp;refine hK _ ?_;clear hK K)
 have hrow6:=owns_fr (owns_drew hrowA) hf6 (by simp)
 obtain ⟨x7,hcp,hrow7,hf7⟩:=copyY (off:=D) (dl:=K - D) (dc:=K - D) hrow6 (SlF.fr0 g1 (hFA.drew.trans0 hf6)) (by omega) (by omega)
 have htk:bs.take (K - D)=bs:=List.take_of_length_le (by omega)
 rw [htk] at hcp hrow7
 rw [hspl] at hrow7
 rw [hi2.2] at hcp
 refine wpG_one fun K' hK'=>?_
 go_simp
 have hf67:Fr [g] A.drew x7:=(hf6.weak).trans' hf7
 refine hK' _ _ hf67 ?_
 clear hK' K'
 refine wpG_end ?_
 have hB7:=hBAd.fr hf67 (by simp;omega)
 have hF7:Fr [] w x7:=hFA.drew.trans hf67 (fun q hq hl=>by have:=List.mem_singleton.1 hq;omega)
 have hfin:=hidIt (And.intro hrow7 (And.intro hB7 hF7))
 clear hrow7 hB7 hF7 hf67 hf7 hcp hrow6 hf6 hrowA hBA hBAd BPd BP hB hrow hF hFA hfp
 go_wp2
 go_roundw
 case rel=>exact ⟨j+1,by omega,by go_num,hfin.out.1,hfin.out.2.1,hfin.out.2.2⟩
 case measure=>simp [intOf];omega
 | false =>
 rw [hpd] at hq
 have kR:=hIH (of_decide_eq_false hpd) x5 hfw5
 unfold lsResPost at kR
 clear hpd
 go_wp2_with fail
 refine kR.mono ?_
 rintro e x6 ⟨u,rfl,hu,_,hf6⟩
 clear kR hIH
 obtain ⟨ua,uc,rfl,_⟩:=SlF.open hu
 have hcl:=catN_len hf
 rw [hcl,hK.out] at hu ⊢
 have hmo6:=owns_fr hmo hf6 (by simp)
 obtain ⟨x7,hcp,hrow7,hf7⟩:=copyY (off:=0) (dl:=K) (dc:=K) hmo6 hu (by rw [hcl];omega) (by omega)
 have htk:(catN n f).take K=catN n f:=List.take_of_length_le (by rw [hcl,hK.out];exact Nat.le_refl _)
 rw [htk] at hcp hrow7
 have hsp:spl (zBy K) 0 (catN n f)=catN n f:=by
  unfold spl
  rw [List.take_zero,List.nil_append,Nat.zero_add,List.drop_eq_nil_of_le (by rw [hcl,hK.out];simp [zBy]),List.append_nil]
 rw [hsp] at hrow7
 rw [hcl,hK.out] at hcp
 have hrow:x7.ownsRow g 5 1 (.slice (some ⟨g,0,none⟩) K K) K ((catN n ((unP (xs.take 0)).foldl upF f)).flatMap byC):=hrow7
 have hBW:=(B5.fr0 hf6).fr hf7 (by simp;omega)
 have hfW:Fr [] w x7:=(hfw5.trans0 hf6).trans1 hf7 (by omega)
 have c7:=hBW.cell
 clear hmo hmo6 hrow7 hu hf6 hf7 hroot c5 hcl
 go_wp2_with fail
 have hlenf:∀j,(∀k,k<n→(((unP (xs.take j)).foldl upF f) k).length=32):=fun j=>fold_len _ _ hf fun p hp=>by
  unfold unP at hp
  obtain ⟨z,hz,rfl⟩:=List.mem_map.1 hp
  exact (hins _ (List.mem_map.2 ⟨z,List.mem_of_mem_take hz,rfl⟩)).2
 go_loopw [47] (fun i wr=>∃j:Nat,j≤xs.length∧i=.int .i64 (j:Int)∧wr.ownsRow g 5 1 (.slice (some ⟨g,0,none⟩) K K) K ((catN n ((unP (xs.take j)).foldl upF f)).flatMap byC)∧Blk wr tb [.string N,.string Q,.int .i64 1,.int .i64 (n:Int),.slice pa xs.length pc] 60∧Fr [] w wr) (fun i _=>xs.length - (intOf i).toNat)
 case atStart=>exact ⟨0,Nat.zero_le _,rfl,hrow,hBW,hfW⟩
 case round =>
 clear hrow hBW hfW
 obtain ⟨j,hj,rfl,hrow,hB,hF⟩:=hrel
 have hclen:=catN_len (hlenf j)
 by_cases hlt:j<xs.length
 case neg =>
  have hlt':¬(j:Int)<(xs.length:Int):=by omega
  rw [List.take_of_length_le (by omega)] at hrow hclen
  have hsl:SlY wr (.slice (some ⟨g,0,none⟩) K K) (catN n ((unP xs).foldl upF f)):=by
   refine SlF.of_owns (base:=g) (e:=5) (size:=1) ?_
   rw [hclen,hK.out]
   exact hrow
  have hfin:=hidIt (And.intro hsl hF)
  clear hsl hF hrow hclen hlenf hB
  go_wp2
  go_ret2
  refine ⟨_,rfl,hfin.out.1,fun k hk=>?_,hfin.out.2⟩
  have e:g=k:=by simpa [Value.ownBlock] using hk
  omega
 obtain ⟨bp,op,hpe,_,q0,q1⟩:=SlF.pcAt (SlF.fr0 hps hF) hlt
 subst hpe
 have hxm:=getD_memB hlt zPv
 obtain ⟨g1,_,_⟩:=hpb _ hxm
 have hi2:=hins _ (unP_at hlt)
 obtain ⟨ba,bc,hbv,_⟩:=SlF.open g1
 have htj:Hid ((unP (xs.take (j+1))).foldl upF f=upF ((unP (xs.take j)).foldl upF f) ((xs.getD j zPv).1,(xs.getD j zPv).2.1)):=hidIt (by
  rw [List.take_succ_eq_append_getElem hlt,List.getD_eq_getElem?_getD,List.getElem?_eq_getElem hlt]
  unfold unP
  rw [List.map_append,List.foldl_append]
  rfl)
 rw [hbv] at q1 g1
 simp only at hi2
 rw [hi2.2] at q1 g1
 generalize (xs.getD j zPv).1=C at *
 generalize (xs.getD j zPv).2.1=bs at *
 clear hbv hxm
 obtain ⟨D,hD⟩:∃D:Nat,Hid (C*32=D):=⟨_,hidIt rfl⟩
 have hDm:(C:Int)*32=(D:Int):=by have:=hD.out;omega
 have hDw:IntKind.i64.wrap (D:Int)=(D:Int):=IntWalk.i64_in _ (by have:=hD.out;omega)
 have hDK:D+32≤K:=by have:=hD.out;have:=hK.out;omega
 have hspl:=spl_cat (x:=bs) (hlenf j) hi2.2 hi2.1
 rw [hD.out,←htj.out] at hspl
 generalize hcc:catN n ((unP (xs.take j)).foldl upF f)=cc0 at *
 clear hcc
 have hfp:=(Fr.refl [] wr).alloc (.cells #[.int .i64 (C:Int),.slice ba 32 bc] 71)
 have BP:=Blk.new wr [.int .i64 (C:Int),.slice ba 32 bc] 71
 have hgw:=(hrow.lt g rfl).2
 obtain ⟨pb,hpbk⟩:∃z,Hid (wr.heap.size=z):=⟨_,hidIt rfl⟩
 have hpg:pb≠g:=by have:=hpbk.out;omega
 rw [hpbk.out] at BP
 have hrowA:=owns_fr hrow hfp (by simp)
 have hBA:=hB.fr0 hfp
 have hFA:=hF.trans0 hfp
 go_wp2_with fail
 rw [hpbk.out]
 generalize wr.alloc (.cells #[.int .i64 (C:Int),.slice ba 32 bc] 71)=A at *
 have BPd:=BP.drew
 have hBAd:=hBA.drew
 have hcut:=fun W=>cut_from (P:=Tryz.prog) (w:=W) 31 5 1 Tryz.underlying31 (by kernel_rfl) (some ⟨g,0,none⟩) K K D (by omega)
 have hsa:slAddr (some ⟨g,0,none⟩) K D 1=some ⟨g,D,none⟩:=by
  unfold slAddr
  rw [if_neg (by omega)]
  simp [Addr.add]
  exact fun h=>h.symm
 rw [hsa] at hcut
 clear q0 q1
 refine wp_region_G (fun X=>Fr [g] A.drew X) [(true,0),(true,1),(true,2),(true,3),(true,7),(true,8),(false,4),(true,5),(true,6),(false,9)] (by as_aux_lemma=>kernel_rfl) (by as_aux_lemma=>kernel_rfl) (Fr.refl _ _) ?_
 simp only [inOrder,jD,jE,jF,jG]
 iterate 2 (refine wpG_pure fun K hK=>?_;go_simp;refine hK _ ?_;clear hK K)
 refine wpG_val (.int .i64 (C:Int)) (by first | rfl | go_simp) (fun X hX=>by have cc:=(BPd.fr hX (by simpa using hpg)).cell;go_simp) ?_
 simp only [Act.put,jA,jB,jC]
 refine wpG_val (.agg #[.string N,.string Q,.int .i64 1,.int .i64 (n:Int),.slice (some ⟨bp,op,none⟩) xs.length pc]) (by first | rfl | go_simp) (fun X hX=>by have cc:=(hBAd.fr hX (by simp;omega)).cell;go_simp) ?_
 simp only [Act.put,jA,jB,jC]
 iterate 1 (refine wpG_pure fun K hK=>?_;go_simp;refine hK _ ?_;clear hK K)
 refine wpG_val (.slice ba 32 bc) (by first | rfl | go_simp) (fun X hX=>by have cc:=(BPd.fr hX (by simpa using hpg)).cell;go_simp) ?_
 simp only [Act.put,jA,jB,jC]
 refine wpG_one fun K hK=>?_
 go_simp
 refine (lsBytes_calls N Q (n:Int) _ _ _ _).mono ?_
 rintro e x6 ⟨rfl,hf6⟩
 refine hK _ _ (hf6.weak) ?_
 clear hK K
 iterate 2 (refine wpG_pure fun K hK=>?_;go_simp;refine hK _ ?_;clear hK K)
 have hrow6:=owns_fr (owns_drew hrowA) hf6 (by simp)
 obtain ⟨x7,hcp,hrow7,hf7⟩:=copyY (off:=D) (dl:=K - D) (dc:=K - D) hrow6 (SlF.fr0 g1 (hFA.drew.trans0 hf6)) (by omega) (by omega)
 have htk:bs.take (K - D)=bs:=List.take_of_length_le (by omega)
 rw [htk] at hcp hrow7
 rw [hspl] at hrow7
 rw [hi2.2] at hcp
 refine wpG_one fun K' hK'=>?_
 go_simp
 have hf67:Fr [g] A.drew x7:=(hf6.weak).trans' hf7
 refine hK' _ _ hf67 ?_
 clear hK' K'
 refine wpG_end ?_
 have hB7:=hBAd.fr hf67 (by simp;omega)
 have hF7:Fr [] w x7:=hFA.drew.trans hf67 (fun q hq hl=>by have:=List.mem_singleton.1 hq;omega)
 have hfin:=hidIt (And.intro hrow7 (And.intro hB7 hF7))
 clear hrow7 hB7 hF7 hf67 hf7 hcp hrow6 hf6 hrowA hBA hBAd BPd BP hB hrow hF hFA hfp
 go_wp2
 go_roundw
 case rel=>exact ⟨j+1,by omega,by go_num,hfin.out.1,hfin.out.2.1,hfin.out.2.2⟩
 case measure=>simp [intOf];omega
end
end Go.Proofs.YtffnihooekbcnaaGreat
namespace Go.Proofs.YtffnihooekbcnaaGreat
open Go.RowKit Go.Maps
section
variable {w w':World} {o:Nat→Prop} {lb:Nat} {v:Value} {ys:List Bkv}
theorem nm_at {ys:List Bkv} {i:Nat} (hi:i<ys.length):(ys.map (·.1))[i]? = some (ys.getD i zBv).1:=by
 rw [List.getElem?_map,List.getD_eq_getElem?_getD,List.getElem?_eq_getElem hi]
 rfl
theorem nm_apart {ys:List Bkv} (hG:GoodL (ys.map (·.1))) {i j:Nat} (hij:i<j) (hj:j<ys.length):(ys.getD i zBv).1.nm≠(ys.getD j zBv).1.nm:=by
 have h1:=List.pairwise_iff_getElem.1 hG.apart i j (by rw [List.length_map];omega) (by rw [List.length_map];exact hj) hij
 have hi2:=nm_at (ys:=ys) (i:=i) (by omega)
 have hj2:=nm_at hj
 rw [List.getElem?_eq_getElem (by rw [List.length_map];omega)] at hi2 hj2
 injection hi2 with hi2
 injection hj2 with hj2
 rw [hi2,hj2] at h1
 exact h1
theorem fd_self {ys:List Bkv} (hG:GoodL (ys.map (·.1))) {i:Nat} (hi:i<ys.length):fdI ys (ys.getD i zBv).1.nm=some i:=fdI_at hi rfl fun _ hj=>nm_apart hG hj hi
theorem lsRestore_calls (n:Nat) (hG:GoodL (ys.map (·.1))) (hn:∀y∈ys,y.1.n=n) (h1:1≤n):∀(i:Nat) (w:World),LstW w lb o v ys→i<ys.length →
 Calls Tryz.prog 12 #[.pointer (some ⟨lb,0,none⟩),strL (ys.getD i zBv).1.nm] w (lsResPost w (catN n (cont ((ys.map (·.1)).take (i+1)).reverse (ys.getD i zBv).1.nm))):=by
 intro i
 induction i using Nat.strongRecOn with
 | _ i ih =>
   intro w h hi
   have hym:=getD_memB hi zBv
   have hgo:∀y∈ys,GoodB y.1:=fun y hy=>hG.one _ (List.mem_map.2 ⟨y,hy,rfl⟩)
   have hb:=nm_at hi
   have hlen:(ys.map (·.1)).length=ys.length:=List.length_map _
   have htk:((ys.map (·.1)).take (i+1)).reverse=(ys.getD i zBv).1 :: ((ys.map (·.1)).take i).reverse:=by
    rw [List.take_add_one,hb,List.reverse_append]
    rfl
   have hps:∀b∈((ys.map (·.1)).take i).reverse,∀p∈b.ps,p.2.length=32:=fun b hb p hp=>by
    have:=List.mem_of_mem_take (List.mem_reverse.1 hb)
    exact ((hG.one b this).ins p hp).2
   rw [htk,cont_new (hgo _ hym).up]
   refine lsRes_step n i h (fun y hy=>⟨hgo y hy,hn y hy⟩) h1 hi (fd_self hG hi) _ (fun k _=>?_) (fun hp k=>?_) (fun hp X hX=>?_)
   ·unfold baseF
    split
    ·simp [zBy]
    ·exact cont_len hps
   ·unfold baseF
    rw [if_pos hp]
   ·obtain ⟨j,c,hj,hc,he⟩:=hG.par i _ hb hp
    have hjl:j<ys.length:=by omega
    have hcj:=nm_at hjl
    rw [hc] at hcj
    injection hcj with hcj
    subst hcj
    have hih:=ih j hj X (h.fr0 hX) hjl
    rw [he] at hih
    have e:catN n (baseF ((ys.map (·.1)).take i).reverse (ys.getD i zBv).1)=catN n (cont ((ys.map (·.1)).take (j+1)).reverse (ys.getD i zBv).1.pa):=catN_congr fun k _=>by
     unfold baseF
     rw [if_neg hp]
     refine cont_pre hj (by omega) (fun q h2 h3 b hbq=>?_) k
     have hq:=nm_at (ys:=ys) (i:=q) (by omega)
     rw [hbq] at hq
     injection hq with hq
     subst hq
     rw [←he]
     exact (nm_apart hG h2 (by omega)).symm
    rw [e]
    exact hih
end
end Go.Proofs.YtffnihooekbcnaaGreat
