/-
  What a world keeps when a push does a step, and what a push that is done leaves: in plain Lean.
-/
import Derived.Test.YtffnihooekbcnaaGreatG38
set_option maxRecDepth 100000
set_option maxHeartbeats 6400000
namespace Go.Proofs.YtffnihooekbcnaaGreat
open Go.RowKit
theorem got_mem {n:Nat} {G:Nat→Option By} {k:Nat} {x:By} (hk:k<n) (h:G k=some x):(k,x)∈gotL n G:=by
 unfold gotL
 rw [List.mem_map]
 exact ⟨k,gotN_mem.2 ⟨hk,by rw [h];rfl⟩,by rw [h];rfl⟩
theorem mem_got {n:Nat} {G:Nat→Option By} {q:Nat × By} (h:q∈gotL n G):q.1<n∧G q.1=some q.2:=by
 unfold gotL at h
 rw [List.mem_map] at h
 obtain ⟨k,hk,rfl⟩:=h
 obtain ⟨h1,h2⟩:=gotN_mem.1 hk
 refine ⟨h1,?_⟩
 cases e:G k with
 | none=>rw [e] at h2;cases h2
 | some y=>rfl
theorem piece_got {n:Nat} {G:Nat→Option By} {k:Nat} (hk:k<n):pieceAt (gotL n G) k=G k:=by
 cases h:pieceAt (gotL n G) k with
 | some x=>exact ((mem_got (pieceAt_mem h)).2).symm
 | none =>
   cases e:G k with
   | none=>rfl
   | some x =>
     unfold pieceAt at h
     rw [Option.map_eq_none_iff,List.find?_eq_none] at h
     have:=h _ (got_mem hk e)
     simp at this
theorem last_of {ys:List Bkv} (h:ys≠[]):∃y,ys.getLast? = some y∧y∈ys∧lastN ys=y.1.nm∧ys[ys.length - 1]? = some y:=by
 obtain ⟨y,hy⟩:∃y,ys.getLast? = some y:=by
  cases e:ys.getLast? with
  | none=>exact absurd (List.getLast?_eq_none_iff.1 e) h
  | some y=>exact ⟨y,rfl⟩
 refine ⟨y,hy,List.mem_of_getLast? hy,?_,?_⟩
 ·unfold lastN
  rw [hy]
 ·rw [←List.getLast?_eq_getElem?]
  exact hy
section
variable {S S':SimS} {p p':List By} {Ws:List (Nat→By)} {W W':Nat→By}
theorem Inv.last (h:Inv S p Ws W) (hys:S.ys≠[]):lastN S.ys≠[]∧(lastN S.ys).length≤15:=by
 obtain ⟨y,_,hym,he,_⟩:=last_of hys
 have hg:=h.good.one y.1 (List.mem_map.2 ⟨y,hym,rfl⟩)
 rw [he]
 exact ⟨hg.nonil,okName_len hg.nm⟩
theorem inv_fin (h:Inv S p Ws W) {jb lm gm:Nat} {o:Nat→Prop} {l:List Bool} {G:Got} (hj:S.j=.push jb lm gm o l G false) (h0:cnt l=0) (hf:S.ys.length≤14):FinOk S (gotL S.n (unG G)):=by
 have hJ:=h.job
 unfold JobOk at hJ
 simp only [hj] at hJ
 obtain ⟨_,hp⟩:=hJ
 have hn:=h.ok.n
 have hG:GoodB (finB S (gotL S.n (unG G))):=by
  refine ⟨hp.nm,?_,by show S.n≤256;omega,?_,fun q hq=>?_,?_⟩
  ·show S.pa.length≤15
   rcases hp.pa with ⟨q1,_⟩ | ⟨_,q2,q3,_⟩
   ·rw [q1];exact Nat.zero_le _
   ·rw [q2];exact (h.last q3).2
  ·show (gotL S.n (unG G)).Pairwise _
   unfold gotL
   rw [List.pairwise_map]
   exact (List.Pairwise.filter _ List.pairwise_lt_range)
  ·obtain ⟨h1,h2⟩:=mem_got hq
   refine ⟨h1,?_⟩
   rw [(hp.one _ h1).got _ h2]
   exact h.Wl _ h1
  ·show S.pa≠[]∨(gotL S.n (unG G)).length=S.n
   rcases hp.pa with ⟨q1,_⟩ | ⟨q1,_⟩
   ·refine .inr ?_
    unfold gotL
    rw [List.length_map]
    have:gotN S.n (unG G)=List.range S.n:=by
     unfold gotN
     rw [List.filter_eq_self]
     intro k hk
     have hk':=List.mem_range.1 hk
     cases e:unG G k with
     | some x=>rfl
     | none=>exact absurd q1 ((hp.one k hk').none (cnt_zero h0 k) e).1
    rw [this,List.length_range]
   ·exact .inl q1
 have hbl:∀b∈S.ys.map (·.1)++[finB S (gotL S.n (unG G))],GoodB b∧b.n=S.n:=fun b hb=>by
  rcases List.mem_append.1 hb with hb | hb
  ·obtain ⟨y,hy,rfl⟩:=List.mem_map.1 hb
   exact ⟨h.good.one _ hb,h.ns y hy⟩
  ·rw [List.mem_singleton.1 hb];exact ⟨hG,rfl⟩
 refine ⟨hp.zb,hp.zn,⟨fun b hb=>(hbl b hb).1,?_,fun i b hi hpa=>?_,by simp;omega⟩,by omega,?_⟩
 ·rw [List.pairwise_append]
  refine ⟨h.good.apart,List.pairwise_singleton _ _,fun a ha b hb=>?_⟩
  rw [List.mem_singleton.1 hb]
  obtain ⟨y,hy,rfl⟩:=List.mem_map.1 ha
  exact hp.new y hy
 ·by_cases hil:i<(S.ys.map (·.1)).length
  ·rw [List.getElem?_append_left hil] at hi
   obtain ⟨j,c,hji,hc,he⟩:=h.good.par i b hi hpa
   exact ⟨j,c,hji,by rw [List.getElem?_append_left (by omega)];exact hc,he⟩
  ·rw [List.getElem?_append_right (by omega)] at hi
   have hb:=List.mem_of_getElem? hi
   rw [List.mem_singleton.1 hb] at hpa ⊢
   have hi0:i - (S.ys.map (·.1)).length=0:=by
    have:=(List.getElem?_eq_some_iff.1 hi).1
    simp at this
    rw [List.length_map]
    omega
   rcases hp.pa with ⟨q1,_⟩ | ⟨_,q2,q3,_⟩
   ·exact absurd q1 hpa
   ·obtain ⟨y,_,_,he,hat⟩:=last_of q3
    have hpos:0<S.ys.length:=List.length_pos_iff.2 q3
    have hlm:(S.ys.map (·.1)).length=S.ys.length:=List.length_map _
    refine ⟨S.ys.length - 1,y.1,by omega,?_,?_⟩
    ·rw [List.getElem?_append_left (by omega),List.getElem?_map,hat]
     rfl
    ·show y.1.nm=S.pa
     rw [q2,he]
 ·have:=lsB_len hbl
  have hll:(S.ys.map (·.1)++[finB S (gotL S.n (unG G))]).length≤15:=by simp;omega
  have h36:37+36*S.n≤253:=by omega
  have hmul:(S.ys.map (·.1)++[finB S (gotL S.n (unG G))]).length*(37+36*S.n)≤15*253:=Nat.mul_le_mul hll h36
  omega
theorem fin_cont (h:Inv S p Ws W) {jb lm gm:Nat} {o:Nat→Prop} {l:List Bool} {G:Got} (hj:S.j=.push jb lm gm o l G false) (h0:cnt l=0) {k:Nat} (hk:k<S.n):cont (finB S (gotL S.n (unG G)) :: (S.ys.map (·.1)).reverse) S.nm k=W k:=by
 have hJ:=h.job
 unfold JobOk at hJ
 simp only [hj] at hJ
 obtain ⟨_,hp⟩:=hJ
 have hk1:=hp.one k hk
 unfold cont
 rw [if_pos (show (finB S (gotL S.n (unG G))).nm=S.nm from rfl),show (finB S (gotL S.n (unG G))).ps=gotL S.n (unG G) from rfl,piece_got hk]
 cases e:unG G k with
 | some x=>exact hk1.got x e
 | none =>
   have:=(hk1.none (cnt_zero h0 k) e).2
   rw [←this]
   rfl
theorem inv_copy (h:Inv S p Ws W) {jb lm gm:Nat} {o o':Nat→Prop} {l:List Bool} {G G':Got} (hj:S.j=.push jb lm gm o l G false) {k:Nat} (hk:k∈onL l) (hG:unG G'=putG (unG G) k (viewK S.L S.n S.s p k)) :
 Inv { S with j:=.push jb lm gm o' (l.set k false) G' false } p Ws W:=by
 have hJ:=h.job
 unfold JobOk at hJ
 simp only [hj] at hJ
 obtain ⟨_,hp⟩:=hJ
 have hkn:k<S.n:=by rw [←hp.len];exact onL_lt hk
 refine h.re ⟨rfl,rfl,rfl,rfl⟩ ⟨h.ok.ok,h.ok.path,h.ok.n,h.ok.deep⟩ h.Wl h.E ⟨rfl,?_⟩ (fun h1=>absurd rfl h1)
 refine ⟨by rw [List.length_set];exact hp.len,hp.zb,hp.zn,hp.nm,hp.new,hp.pa,fun j hjn=>?_⟩
 have hj1:=hp.one j hjn
 rw [hG]
 refine ⟨fun h9=>?_,fun x hx=>?_,fun h8 h9=>?_,fun h9=>hj1.since h9⟩
 ·rw [set_getD] at h9
  split at h9
  ·cases h9
  ·exact hj1.left h9
 ·unfold putG at hx
  split at hx
  ·rename_i e
   subst e
   injection hx with hx
   rw [←hx,vw_view hjn]
   exact hj1.left (onL_mem.1 hk)
  ·exact hj1.got x hx
 ·unfold putG at h9
  split at h9
  ·cases h9
  ·rename_i e
   rw [set_getD,if_neg e] at h8
   exact hj1.none h8 h9
theorem FinOk.job {ps:List (Nat × By)} (h:FinOk S ps) (j:JobS):FinOk { S with j:=j } ps:=⟨h.zb,h.zn,h.good,h.few,h.len⟩
theorem inv_done (h:Inv S p Ws W) {jb lm gm:Nat} {o:Nat→Prop} {l:List Bool} {G:Got} (hj:S.j=.push jb lm gm o l G false) (h0:cnt l=0) (hf:S.ys.length≤14) {EJ:List Cel→Prop} {S2:SimS} (hS:FinJ { S with j:=.push jb lm gm o l G true } (gotL S.n (unG G)) EJ S2)
 (hEJ:∀E,EJ E→∃c,E=[c]∧OkE1 c S.n∧∀k,k<S.n→dirtyE E S.n k=false→sinD S k=false) :
 Inv { S2 with j:=.none } p (Ws++[W]) W∧S2.wb=S.wb∧S2.n=S.n∧S2.ys.map (·.1.nm)=S.ys.map (·.1.nm)++[S.nm]:=by
 have hfin:=inv_fin h hj h0 hf
 have hcont:=fun k (hk:k<S.n)=>fin_cont h hj h0 hk
 have hJ:=h.job
 unfold JobOk at hJ
 simp only [hj] at hJ
 obtain ⟨_,hp⟩:=hJ
 obtain ⟨pv,lb,o2,v,ys,F,E,rfl,hys,hE⟩:=hS
 have hys:ys.map (·.1)=S.ys.map (·.1)++[finB S (gotL S.n (unG G))]:=hys
 obtain ⟨c,hEc,hE1,hEd⟩:=hEJ E hE
 have hlen:ys.length=S.ys.length+1:=by have:=congrArg List.length hys;simpa using this
 have hat:∀i,i<ys.length→(ys.map (·.1))[i]? = some (ys.getD i zBv).1:=fun i hi=>nm_at hi
 have hlast:lastN ys=S.nm:=by
  have hne:ys≠[]:=fun e=>by rw [e] at hlen;cases hlen
  obtain ⟨y,_,_,he,hy⟩:=last_of hne
  have:=congrArg (fun L=>L[ys.length - 1]?) hys
  simp only at this
  rw [List.getElem?_map,hy,List.getElem?_append_right (by rw [List.length_map];omega)] at this
  rw [List.length_map,hlen,Nat.add_sub_cancel,Nat.sub_self] at this
  injection this with this
  rw [he]
  show (y.1).nm=_
  have h9:y.1=finB S (gotL S.n (unG G)):=this
  rw [h9]
  rfl
 refine ⟨⟨⟨h.ok.ok,h.ok.path,h.ok.n,h.ok.deep⟩,by show GoodL (ys.map (·.1));rw [hys];exact hfin.good,?_,?_,?_,h.Wl,⟨c,hEc,hE1⟩,trivial,?_⟩,rfl,rfl,?_⟩
 ·show ∀y∈ys,y.1.n=S.n
  intro y hy
  have hm:y.1∈ys.map (·.1):=List.mem_map.2 ⟨y,hy,rfl⟩
  rw [hys] at hm
  rcases List.mem_append.1 hm with hm | hm
  ·obtain ⟨y',hy',he⟩:=List.mem_map.1 hm
   rw [←he]
   exact h.ns y' hy'
  ·rw [List.mem_singleton.1 hm]
   rfl
 ·show (Ws++[W]).length=ys.length
  rw [List.length_append,h.len,hlen]
  rfl
 ·show ∀i,i<ys.length→∀k,k<S.n→cont ((ys.map (·.1)).take (i+1)).reverse (ys.getD i zBv).1.nm k=(Ws++[W]).getD i (fun _=>[]) k
  intro i hi k hk
  have hai:=hat i hi
  rw [hys] at hai ⊢
  have hml:(S.ys.map (·.1)).length=S.ys.length:=List.length_map _
  by_cases hil:i<S.ys.length
  ·rw [List.getElem?_append_left (by omega),nm_at hil] at hai
   injection hai with hai
   rw [List.take_append_of_le_length (by omega),←hai,h.cont i hil k hk,List.getD_eq_getElem?_getD,List.getD_eq_getElem?_getD,List.getElem?_append_left (by rw [h.len];exact hil)]
  ·have hie:i=S.ys.length:=by omega
   subst hie
   rw [List.getElem?_append_right (by omega),hml,Nat.sub_self] at hai
   injection hai with hai
   have hai:(finB S (gotL S.n (unG G)))=(ys.getD S.ys.length zBv).1:=hai
   rw [List.take_of_length_le (by simp),List.reverse_append,←hai,List.getD_eq_getElem?_getD,List.getElem?_append_right (by rw [h.len];exact Nat.le_refl _),h.len,Nat.sub_self]
   exact hcont k hk
 ·intro _ _
  show ∀k,k<S.n→dirtyE E S.n k=false→vw S p k=cont (ys.map (·.1)).reverse (lastN ys) k
  intro k hk hd
  rw [hlast,hys,List.reverse_append]
  exact ((hp.one k hk).since (hEd k hk hd)).trans (hcont k hk).symm
 ·show ys.map (fun y=>y.1.nm)=_
  have:=congrArg (fun L=>L.map Bk.nm) hys
  simp only [List.map_map,List.map_append,List.map_cons,List.map_nil] at this
  exact this
theorem ej_none (h:Inv S p Ws W) (hsc:S.sc=none):∀E,E=S.E→∃c,E=[c]∧OkE1 c S.n∧∀k,k<S.n→dirtyE E S.n k=false→sinD S k=false:=by
 rintro E rfl
 obtain ⟨c,h1,h2⟩:=h.E
 refine ⟨c,h1,h2,fun k _ hd=>?_⟩
 unfold sinD
 rw [hsc]
 exact hd
theorem ej_some {x:Nat × Nat × List Bool} (hsc:S.sc=some x) {c:Cel} (hc:OkE1 c S.n):∀E:List Cel,(∃c':Cel,E=[c']∧c'.x=⟨c.x.name,c.x.on,true,2*S.n,c.x.g,mrg (2*S.n) c.x.g (clrE c.x).l 1 x.2.2⟩)→∃c,E=[c]∧OkE1 c S.n∧∀k,k<S.n→dirtyE E S.n k=false→sinD S k=false:=by
 rintro E ⟨c',rfl,hx⟩
 obtain ⟨h1,h2,h3,h4,h5,h6⟩:=hc
 have hcl:(clrE c.x).l.length=gran (2*S.n) 2:=by
  show (doS c.x.g (c.x.S,c.x.l) (1,0,c.x.S)).1.2.length=_
  unfold doS
  rw [if_neg (by simp),if_pos rfl]
  split
  ·show (bClear _ _ _ _ _).length=_
   unfold bClear
   rw [List.length_map,List.length_range]
   exact h6
  ·exact h6
 refine ⟨c',rfl,?_,fun k hk hd=>?_⟩
 ·unfold OkE1
  rw [hx]
  refine ⟨h1,h2,rfl,rfl,h5,?_⟩
  show (mrg (2*S.n) c.x.g (clrE c.x).l 1 x.2.2).length=_
  unfold mrg
  rw [mrgL_len]
  exact hcl
 ·unfold sinD
  rw [hsc]
  unfold dirtyE at hd
  simp only [hx,h5] at hd
  unfold dirtyB at hd ⊢
  rw [Bool.or_eq_false_iff] at hd ⊢
  have key:∀s:Nat,s<2*S.n→isB (2*S.n) 2 (mrg (2*S.n) 2 (clrE c.x).l 1 x.2.2) (s:Int)=false→isB (2*S.n) 1 x.2.2 (s:Int)=false:=fun s hs h9=>by
   cases e:isB (2*S.n) 1 x.2.2 (s:Int) with
   | false=>rfl
   | true =>
     rw [mrg_is (by decide) hcl hs (.inr e)] at h9
     cases h9
  exact ⟨key _ (by omega) hd.1,key _ (by omega) hd.2⟩
end
end Go.Proofs.YtffnihooekbcnaaGreat
namespace Go.Proofs.YtffnihooekbcnaaGreat
open Go.RowKit Go.Maps
theorem Inv.live {S:SimS} {p:List By} {Ws:List (Nat→By)} {W:Nat→By} (h:Inv S p Ws W):S.j.live:=by
 have hJ:=h.job
 unfold JobOk at hJ
 cases hj:S.j with
 | none=>trivial
 | merge jb mp b l ov=>simp only [hj] at hJ;exact hJ.1
 | pull jb ov=>simp only [hj] at hJ;exact hJ
 | push jb lm gm o l G ov=>simp only [hj] at hJ;exact hJ.1
theorem cal_write (a:Array Value) (w:World):(callFunc 17 a).run Tryz.prog w=.ok (.enter 17 a) w:=by kernel_rfl
theorem cal_overlay (a:Array Value) (w:World):(callFunc 20 a).run Tryz.prog w=.ok (.enter 20 a) w:=by kernel_rfl
theorem cal_bitmap (a:Array Value) (w:World):(callFunc 21 a).run Tryz.prog w=.ok (.enter 21 a) w:=by kernel_rfl
theorem cal_merge (a:Array Value) (w:World):(callFunc 22 a).run Tryz.prog w=.ok (.enter 22 a) w:=by kernel_rfl
theorem cal_pull (a:Array Value) (w:World):(callFunc 23 a).run Tryz.prog w=.ok (.enter 23 a) w:=by kernel_rfl
theorem cal_push (a:Array Value) (w:World):(callFunc 24 a).run Tryz.prog w=.ok (.enter 24 a) w:=by kernel_rfl
theorem cal_step (a:Array Value) (w:World):(callFunc 25 a).run Tryz.prog w=.ok (.enter 25 a) w:=by kernel_rfl
theorem cal_crash (a:Array Value) (w:World):(callFunc 27 a).run Tryz.prog w=.ok (.enter 27 a) w:=by kernel_rfl
section
variable {w w':World} {S:SimS} {p:List By} {Ws:List (Nat→By)} {W:Nat→By}
def keptP (w:World) (S:SimS) (Ws:List (Nat→By)) (W:Nat→By) (R:List By→SimS→Prop) (w':World):Prop :=
 ∃p' S',SimW w' S'∧Inv S' p' Ws W∧SameS S S'∧StepO w (allF (simF S)) w' (allF (simF S'))∧R p' S'
def doP (w:World) (S:SimS) (Ws:List (Nat→By)) (W:Nat→By) (R:List By→SimS→Prop) (e:Ending) (w':World):Prop :=
 ∃i,e=.returned (.int .i64 i)∧keptP w S Ws W R w'
theorem kept_same {X:World} (h:SimW w S) (hI:Inv S p Ws W) (hX:Fr [] w X) {w2:World} (hf:Fr [] X w2) {R:List By→SimS→Prop} (hR:R p S):keptP w S Ws W R w2 :=
 ⟨p,S,h.fr0 (hX.trans0 hf),hI,⟨rfl,rfl,rfl,rfl⟩,StepO.fr0 (hX.trans0 hf),hR⟩
theorem do_write (h:SimW w S) (hI:Inv S p Ws W) (a:Int) (va:Option Addr) (vn vc:Nat) (b:By) (hb:0<b.length) (hv:SlY w (.slice va vn vc) b) (hvo:∀k,(Value.slice va vn vc).ownBlock=some k→¬allF (simF S) k) :
 Calls Tryz.prog 8 #[.pointer (some ⟨S.wb,0,none⟩),.agg (stepC 0 a 0 (.slice va vn vc) [] [] (.slice none 0 0)).toArray] w (doP w S Ws W fun p' S'=>p'=p∧S'.j.kind=S.j.kind∧∃c p2,fK S.L S.s=some c∧S'.L=setK S.L S.s p2 (wrRes S p c a b).2∧S'.s=S.s):=by
 obtain ⟨c,hc,_,_⟩:=hI.ok.find
 refine sDo_calls 17 S.wb 0 a 0 va vn vc [] [] none 0 0 (by decide) (by simp [upd]) cal_write fun X hX=>?_
 refine (sWrite_calls (h.fr0 hX) hI.ok hI.live c hc 0 a 0 (.slice va vn vc) b [] [] none 0 0 (SlF.fr0 hv hX) (fun _=>hvo)).mono ?_
 rintro e w2 ⟨rfl,p2,S',hJ,hS,hst⟩
 obtain ⟨h1,h2,h3⟩:=inv_write hI hc hb hJ
 refine ⟨_,rfl,p,S',hS,h1,h2,(StepO.fr0 hX).trans hst,rfl,h3,c,p2,hc,?_⟩
 unfold WrJ at hJ
 cases hj:S.j with
 | none=>simp only [hj] at hJ;subst hJ;exact ⟨rfl,rfl⟩
 | merge jb mp bs l ov=>simp only [hj] at hJ;subst hJ;exact ⟨rfl,rfl⟩
 | pull jb ov=>simp only [hj] at hJ;subst hJ;exact ⟨rfl,rfl⟩
 | push jb lm gm o l G ov=>simp only [hj] at hJ;obtain ⟨o',G',_,rfl⟩:=hJ;exact ⟨rfl,rfl⟩
theorem do_overlay (h:SimW w S) (hI:Inv S p Ws W) (hk3:S.j.kind≠3) (nm:By) (hnm:nm.length≤maxLen) :
 Calls Tryz.prog 8 #[.pointer (some ⟨S.wb,0,none⟩),.agg (stepC 3 0 9 (.slice none 0 0) nm [] (.slice none 0 0)).toArray] w (doP w S Ws W fun _ S'=>S'.j.kind≠3):=by
 refine sDo_calls 20 S.wb 3 0 9 none 0 0 nm [] none 0 0 (by decide) (by simp [upd]) cal_overlay fun X hX=>?_
 by_cases hj:S.j=.none
 ·refine (sOverlay_calls (h.fr0 hX) hI.ok hj 3 0 9 none 0 0 nm [] none 0 0 hnm).mono ?_
  rintro e w2 ⟨rfl,⟨_,hf⟩ | ⟨he,c,hcx,hS,hst⟩⟩
  ·exact ⟨_,rfl,kept_same h hI hX hf hk3⟩
  ·exact ⟨_,rfl,_,_,hS,inv_overlay hI hj hcx he,⟨rfl,rfl,rfl,rfl⟩,(StepO.fr0 hX).trans hst,hk3⟩
 ·refine (sBusy_overlay (h.fr0 hX) hj 3 0 9 none 0 0 nm [] none 0 0).mono ?_
  rintro e w2 ⟨rfl,hf⟩
  exact ⟨_,rfl,kept_same h hI hX hf hk3⟩
theorem do_merge (h:SimW w S) (hI:Inv S p Ws W) (hk3:S.j.kind≠3) (nm:By) :
 Calls Tryz.prog 8 #[.pointer (some ⟨S.wb,0,none⟩),.agg (stepC 5 0 9 (.slice none 0 0) nm [] (.slice none 0 0)).toArray] w (doP w S Ws W fun _ S'=>S'.j.kind≠3):=by
 refine sDo_calls 22 S.wb 5 0 9 none 0 0 nm [] none 0 0 (by decide) (by simp [upd]) cal_merge fun X hX=>?_
 by_cases hj:S.j=.none
 ·refine (sMerge_calls (h.fr0 hX) hI.ok hj 5 0 9 none 0 0 nm [] none 0 0).mono ?_
  rintro e w2 (⟨code,_,rfl,hf⟩ | ⟨b,r,jb,mp,hp,rfl,hS,hst⟩)
  ·exact ⟨_,rfl,kept_same h hI hX hf hk3⟩
  ·exact ⟨_,rfl,_,_,hS,inv_merge hI hj hp jb mp,⟨rfl,rfl,rfl,rfl⟩,(StepO.fr0 hX).trans hst,by simp [JobS.kind]⟩
 ·refine (sBusy_mergeBegin (h.fr0 hX) hj 5 0 9 none 0 0 nm [] none 0 0).mono ?_
  rintro e w2 ⟨rfl,hf⟩
  exact ⟨_,rfl,kept_same h hI hX hf hk3⟩
theorem do_pull (h:SimW w S) (hI:Inv S p Ws W) (hk3:S.j.kind≠3) (nm:By) :
 Calls Tryz.prog 8 #[.pointer (some ⟨S.wb,0,none⟩),.agg (stepC 6 0 9 (.slice none 0 0) nm [] (.slice none 0 0)).toArray] w (doP w S Ws W fun _ S'=>S'.j.kind≠3):=by
 refine sDo_calls 23 S.wb 6 0 9 none 0 0 nm [] none 0 0 (by decide) (by simp [upd]) cal_pull fun X hX=>?_
 by_cases hj:S.j=.none
 ·refine (sPull_calls (h.fr0 hX) hI.ok hj 6 0 9 none 0 0 nm none 0 0).mono ?_
  rintro e w2 (⟨_,rfl,hf⟩ | ⟨_,jb,rfl,hS,hst⟩)
  ·exact ⟨_,rfl,kept_same h hI hX hf hk3⟩
  ·exact ⟨_,rfl,_,_,hS,inv_pull hI hj jb,⟨rfl,rfl,rfl,rfl⟩,(StepO.fr0 hX).trans hst,by simp [JobS.kind]⟩
 ·refine (sBusy_pullBegin (h.fr0 hX) hj 6 0 9 none 0 0 nm [] none 0 0).mono ?_
  rintro e w2 ⟨rfl,hf⟩
  exact ⟨_,rfl,kept_same h hI hX hf hk3⟩
def pushP (w:World) (S:SimS) (p:List By) (Ws:List (Nat→By)) (nm:By) (e:Ending) (w':World):Prop :=
 e=.returned (.int .i64 0)∧∃S',SimW w' S'∧Inv S' p Ws (vw S p)∧S'.wb=S.wb∧S'.n=S.n∧S'.ys=S.ys∧S'.nm=nm∧S'.j.kind=3∧StepO w (allF (simF S)) w' (allF (simF S'))
theorem do_whole (h:SimW w S) (hI:Inv S p Ws W) (hj:S.j=.none) (hys:S.ys=[]) (nm:By) (hnm:okName nm=true) :
 Calls Tryz.prog 8 #[.pointer (some ⟨S.wb,0,none⟩),.agg (stepC 7 0 9 (.slice none 0 0) nm [] (.slice none 0 0)).toArray] w (pushP w S p Ws nm):=by
 obtain ⟨c,hE,hE1⟩:=hI.E
 refine (sDo_calls 24 S.wb (Q:=fun i w'=>pushP w S p Ws nm (.returned (.int .i64 i)) w') 7 0 9 none 0 0 nm [] none 0 0 (by decide) (by simp [upd]) cal_push fun X hX=>?_).mono ?_
 ·refine (sPush_whole (h.fr0 hX) hI.ok hj 7 0 none 0 0 nm none 0 0 hnm (by rw [hys];simp) (by rw [hys];simp) (by rw [hE];simp [findC,hE1.1,nM])).mono ?_
  rintro e w2 ⟨rfl,jb,lm,gm,hS,hst⟩
  exact ⟨_,rfl,rfl,_,hS,inv_whole hI hnm (by rw [hys];simp) jb lm gm,rfl,rfl,rfl,rfl,rfl,(StepO.fr0 hX).trans hst⟩
 ·rintro e w2 ⟨i,rfl,hq⟩
  exact hq
theorem do_part (h:SimW w S) (hI:Inv S p Ws W) (hj:S.j=.none) (hys:S.ys≠[]) (hl:S.ys.length≤100) (nm:By) (hnm:okName nm=true) (hnew:∀y∈S.ys,y.1.nm≠nm) :
 Calls Tryz.prog 8 #[.pointer (some ⟨S.wb,0,none⟩),.agg (stepC 7 0 9 (.slice none 0 0) nm nM (.slice none 0 0)).toArray] w (pushP w S p Ws nm):=by
 obtain ⟨c,hE,hE1⟩:=hI.E
 have hla:=hI.last hys
 refine (sDo_calls 24 S.wb (Q:=fun i w'=>pushP w S p Ws nm (.returned (.int .i64 i)) w') 7 0 9 none 0 0 nm nM none 0 0 (by decide) (by simp [upd]) cal_push fun X hX=>?_).mono ?_
 ·refine (sPush_part (h.fr0 hX) hI.ok hj 7 0 none 0 0 nm nM none 0 0 hnm (fun hm=>by obtain ⟨y,hy,he⟩:=List.mem_map.1 hm;exact hnew y hy he) (by omega) c (by decide) (by rw [hE,←hE1.1];exact one_find c) (by decide) hE1.2.2.1 hla.1 hE1.2.2.2.1).mono ?_
  rintro e w2 ⟨rfl,jb,lm,gm,tb,bb,hS,hst⟩
  exact ⟨_,rfl,rfl,_,hS,inv_part hI hj hnm hnew hE hys hla.1 jb lm gm tb bb,rfl,rfl,rfl,rfl,rfl,(StepO.fr0 hX).trans hst⟩
 ·rintro e w2 ⟨i,rfl,hq⟩
  exact hq
theorem do_busy (h:SimW w S) (hI:Inv S p Ws W) (hj:S.j≠.none) (nm:By) :
 Calls Tryz.prog 8 #[.pointer (some ⟨S.wb,0,none⟩),.agg (stepC 7 0 9 (.slice none 0 0) nm nM (.slice none 0 0)).toArray] w fun e w'=>e=.returned (.int .i64 143)∧SimW w' S∧Inv S p Ws W∧StepO w (allF (simF S)) w' (allF (simF S)):=by
 refine (sDo_calls 24 S.wb (Q:=fun i w'=>i=143∧SimW w' S∧Inv S p Ws W∧StepO w (allF (simF S)) w' (allF (simF S))) 7 0 9 none 0 0 nm nM none 0 0 (by decide) (by simp [upd]) cal_push fun X hX=>?_).mono ?_
 ·refine (sBusy_pushBegin (h.fr0 hX) hj 7 0 9 none 0 0 nm nM none 0 0).mono ?_
  rintro e w2 ⟨rfl,hf⟩
  exact ⟨_,rfl,rfl,(h.fr0 hX).fr0 hf,hI,StepO.fr0 (hX.trans0 hf)⟩
 ·rintro e w2 ⟨i,rfl,rfl,hq⟩
  exact ⟨rfl,hq⟩
theorem do_crash (h:SimW w S) (hI:Inv S p Ws W) (hys:S.ys≠[]) :
 Calls Tryz.prog 8 #[.pointer (some ⟨S.wb,0,none⟩),.agg (stepC 10 0 0 (.slice none 0 0) [] [] (.slice none 0 0)).toArray] w (crPost S w):=by
 have hF:S.F≠none:=fun e=>by
  have:=h.fil.emp e
  rw [List.map_eq_nil_iff] at this
  exact hys this
 refine (sDo_calls 27 S.wb (Q:=fun i w'=>crPost S w (.returned (.int .i64 i)) w') 10 0 0 none 0 0 [] [] none 0 0 (by decide) (by simp [upd]) cal_crash fun X hX=>?_).mono ?_
 ·refine (sCrash_calls (h.fr0 hX) hI.good hF 10 0 0 none 0 0 [] []).mono ?_
  rintro e w2 ⟨rfl,V,lb,o,v,ys,g1,g2,g3,g4,g5⟩
  exact ⟨_,rfl,rfl,V,lb,o,v,ys,g1,g2,g3,g4,(StepO.fr0 hX).trans g5⟩
 ·rintro e w2 ⟨i,rfl,hq⟩
  exact hq
end
def leftS (S:SimS):Nat:=match S.j with
 | .push _ _ _ _ l _ _=>cnt l
 | _=>0
theorem cnt_set_lt {l:List Bool} {k:Nat} (hk:k∈onL l):cnt (l.set k false)<cnt l:=by
 have hl:=onL_lt hk
 have h1:onL (l.set k false)=(onL l).filter fun j=>decide (j≠k):=by
  unfold onL
  rw [List.length_set,List.filter_filter]
  refine List.filter_congr fun j _=>?_
  rw [set_getD]
  by_cases e:j=k
  ·simp [e]
  ·simp [e]
 rw [←onL_cnt,←onL_cnt,h1]
 refine Nat.lt_of_le_of_ne (List.length_filter_le _ _) fun e=>?_
 have:=List.length_filter_eq_length_iff.1 e k hk
 simp at this
section
variable {w w':World} {S:SimS} {p:List By} {Ws:List (Nat→By)} {W:Nat→By}
def stP (w:World) (S:SimS) (Ws:List (Nat→By)) (W:Nat→By) (w':World):Prop :=
 ∃p' S' Ws',SimW w' S'∧Inv S' p' Ws' W∧S'.wb=S.wb∧S'.n=S.n∧StepO w (allF (simF S)) w' (allF (simF S')) ∧
  ((S'.ys=S.ys∧S'.nm=S.nm∧Ws'=Ws∧((S.j.kind≠3∧S'.j.kind≠3)∨(S.j.kind=3∧S'.j.kind=3∧leftS S'<leftS S))) ∨
    (S.j.kind=3∧S'.j=.none∧leftS S=0∧Ws'=Ws++[W]∧S'.ys.map (·.1.nm)=S.ys.map (·.1.nm)++[S.nm]))
theorem do_step (h:SimW w S) (hI:Inv S p Ws W) (hj:S.j≠.none) (hf:S.ys.length≤14) :
 Calls Tryz.prog 8 #[.pointer (some ⟨S.wb,0,none⟩),.agg (stepC 8 0 0 (.slice none 0 0) [] [] (.slice none 0 0)).toArray] w fun e w'=>∃i,e=.returned (.int .i64 i)∧stP w S Ws W w':=by
 obtain ⟨c,hc,_,_⟩:=hI.ok.find
 refine sDo_calls 25 S.wb 8 0 0 none 0 0 [] [] none 0 0 (by decide) (by simp [upd]) cal_step fun X hX=>?_
 have hX1:=h.fr0 hX
 cases hjj:S.j with
 | none=>exact absurd hjj hj
 | merge jb mp b l ov =>
   have hJ:=hI.job
   unfold JobOk at hJ
   simp only [hjj] at hJ
   obtain ⟨rfl,_,r,hp,_⟩:=hJ
   subst hp
   have hk3:S.j.kind≠3:=by rw [hjj];simp [JobS.kind]
   obtain ⟨dB,hdB⟩:=hI.ok.path.mem (t:=b) (by simp)
   obtain ⟨cB,hcB,_⟩:=fK_of hdB
   refine (sStep_merge hX1 hI.ok hjj c cB hc hcB 8 0 0 none 0 0 [] [] none 0 0).mono ?_
   rintro e w2 ⟨i,ov,S1,rfl,hR,hS,hst⟩
   obtain ⟨p',g1,g2,g3⟩:=inv_stepMerge hI hjj hc hcB hR
   exact ⟨_,rfl,p',_,Ws,hS,g1,g2.wb,g2.n,(StepO.fr0 hX).trans hst,.inl ⟨g2.ys,g2.nm,rfl,.inl ⟨hk3,g3⟩⟩⟩
 | pull jb ov =>
   have hJ:=hI.job
   unfold JobOk at hJ
   simp only [hjj] at hJ
   subst hJ
   have hk3:S.j.kind≠3:=by rw [hjj];simp [JobS.kind]
   refine (sStep_pull hX1 hI.ok hjj c hc 8 0 0 none 0 0 [] [] none 0 0).mono ?_
   rintro e w2 ⟨i,ov,S1,rfl,hR,hS,hst⟩
   obtain ⟨p',g1,g2,g3⟩:=inv_stepPull hI hjj hc hR
   exact ⟨_,rfl,p',_,Ws,hS,g1,g2.wb,g2.n,(StepO.fr0 hX).trans hst,.inl ⟨g2.ys,g2.nm,rfl,.inl ⟨hk3,g3⟩⟩⟩
 | push jb lm gm o l G ov =>
   have hJ:=hI.job
   unfold JobOk at hJ
   simp only [hjj] at hJ
   obtain ⟨rfl,hp⟩:=hJ
   have hk3:S.j.kind=3:=by rw [hjj];rfl
   have hgb:∀k x,G k=some x→x.1.length=32:=fun k x hx=>by
    have hJm:=h.job
    rw [hjj] at hJm
    have hkn:k<S.n:=hJm.got.sup k x hx
    have:unG G k=some x.1:=by unfold unG;rw [hx];rfl
    rw [(hp.one k hkn).got _ this]
    exact hI.Wl k hkn
   obtain ⟨cE,hE,hE1⟩:=hI.E
   have key:∀(EJ:List Cel→Prop),(cnt l=0→∀X,SimW X { S with j:=.push jb lm gm o l G true }→Calls Tryz.prog 58 #[.pointer (some ⟨S.wb,0,none⟩)] X (finPost X { S with j:=.push jb lm gm o l G true } (gotL S.n (unG G)) EJ)) →
    (∀E,EJ E→∃c,E=[c]∧OkE1 c S.n∧∀k,k<S.n→dirtyE E S.n k=false→sinD S k=false) →
    Calls Tryz.prog 25 #[.pointer (some ⟨S.wb,0,none⟩),.agg (stepC 8 0 0 (.slice none 0 0) [] [] (.slice none 0 0)).toArray] X fun e w'=>∃i,e=.returned (.int .i64 i)∧stP w S Ws W w':=by
    intro EJ kF hEJ
    refine (sStep_push hX1 hI.ok hjj kF 8 0 0 none 0 0 [] [] none 0 0).mono ?_
    rintro e w2 ⟨rfl,S',hR,hS,hst⟩
    rcases hR with ⟨k,o',G',hk,hG,rfl⟩ | ⟨h0,S2,hF,rfl⟩
    ·exact ⟨_,rfl,p,_,Ws,hS,inv_copy hI hjj hk hG,rfl,rfl,(StepO.fr0 hX).trans hst,.inl ⟨rfl,rfl,rfl,.inr ⟨hk3,rfl,by unfold leftS;simp only [hjj];exact cnt_set_lt hk⟩⟩⟩
    ·obtain ⟨g1,g2,g3,g4⟩:=inv_done hI hjj h0 hf hF hEJ
     exact ⟨_,rfl,p,_,_,hS,g1,g2,g3,(StepO.fr0 hX).trans hst,.inr ⟨hk3,rfl,by unfold leftS;simp only [hjj];exact h0,rfl,g4⟩⟩
   cases hsc:S.sc with
   | none =>
     exact key (fun E=>E=S.E) (fun h0 Y hY=>sFinish_none hY rfl hI.ok.n hgb ((inv_fin hI hjj h0 hf).job _) hsc) (ej_none hI hsc)
   | some x =>
     refine key _ (fun h0 Y hY=>sFinish_some hY rfl hI.ok.n hgb ((inv_fin hI hjj h0 hf).job _) (x:=x) hsc (c:=cE) ⟨hE,?_,by rw [hE1.2.2.2.2.1];decide,hE1.2.2.2.1,?_⟩) (ej_some hsc hE1)
     ·show cE.x.name=S.bm
      rcases hp.pa with ⟨_,q⟩ | ⟨_,_,_,q,_⟩
      ·rw [hsc] at q;cases q
      ·rw [q,hE1.1]
     ·show okName S.bm=true
      rcases hp.pa with ⟨_,q⟩ | ⟨_,_,_,q,_⟩
      ·rw [hsc] at q;cases q
      ·rw [q];decide
end
end Go.Proofs.YtffnihooekbcnaaGreat
namespace Go.Proofs.YtffnihooekbcnaaGreat
open Go.RowKit Go.Maps
attribute [local go_sem] mapAt_alloc mapAt_setCell mapAt_drew mapAt_drewN cells_str store_str eql_str neq_str guard_str len_str
def nDsk:By:=[100,105,115,107]
section
variable {w w':World}
def newS (wb cb mb db dm fb fm lb n:Nat) (c:Cd) (o:Nat→Prop):SimS:=⟨wb,cb,mb,db,dm,fb,fm,lb,n,nDsk,[c],[],none,o,.slice none 0 0,[],.none,[],[],0,0,(none,0,0),[],none⟩
def newSPost (n:Nat) (w:World) (e:Ending) (w':World):Prop :=
 ∃wb cb mb db dm fb fm lb c o,e=.returned (.tuple #[.pointer (some ⟨wb,0,none⟩),.int .i64 0])∧c.x=⟨nDsk,[],newI 1 n 60⟩∧SimW w' (newS wb cb mb db dm fb fm lb n c o)∧(∀k,allF (simF (newS wb cb mb db dm fb fm lb n c o)) k→w.heap.size≤k)∧Fr [] w w'
theorem sNew_calls (n:Nat) (hn:1≤n∧n≤6):Calls Tryz.prog 15 #[.int .i64 1,.int .i64 (n:Int),.int .i64 60] w (newSPost n w):=by
 have e1:strL nDsk=Value.string ⟨#[100,105,115,107]⟩:=rfl
 have e2:strL []=Value.string ⟨#[]⟩:=rfl
 have kC:=chNew_calls 1 60 w (by decide) (by decide)
 unfold newChPost at kC
 go_enter Tryz.func15,Tryz.ntmps15
 go_wp2_with fail
 refine kC.mono ?_
 rintro e w1 ⟨cb,mb,rfl,hC1,⟨hz1,hz2⟩,hf1⟩
 clear kC
 have kA:=chAdd_calls nDsk [] [] n hC1 (fun _ _ h=>h) (by decide) (by decide) (by omega) (.inl rfl) (by decide) (by simp) (by decide) (by simp)
 rw [e1,e2] at kA
 have hae:chAddE [] nDsk [] []=0:=by decide
 unfold chAddPost at kA
 rw [hae] at kA
 go_wp2_with fail
 refine kA.mono ?_
 rintro e w2 ⟨rfl,hor⟩
 clear kA
 rcases hor with ⟨h0,_⟩ | ⟨_,c,hcx,hC2,hf2,hp1,hp2⟩
 ·exact absurd rfl h0
 have hf12:Fr [] w w2:=hf1.trans1 hf2 hz2
 have kF:=fiNew_calls w2
 unfold fiNewPost at kF
 go_wp2_with fail
 refine kF.mono ?_
 rintro e w3 ⟨fb,fm,rfl,hF3,hz3,hz4,hne3,hf3⟩
 clear kF
 go_wp2_with fail
 refine (dNew_calls w3).mono ?_
 rintro e w4 ⟨db,dm,rfl,hz5,hz6,hD4,hf4⟩
 have kL:=lsNew_calls w4
 unfold lsNewPost at kL
 go_wp2_with fail
 refine kL.mono ?_
 rintro e w5 ⟨lb,rfl,hz7,hL5,hf5⟩
 clear kL
 have hfW:Fr [] w5 (w5.alloc (.cells (simC (newS w5.heap.size cb mb db dm fb fm lb n c (fun k=>k=lb))).toArray 65)):=(Fr.refl [] w5).alloc _
 have hBW:Blk (w5.alloc (.cells (simC (newS w5.heap.size cb mb db dm fb fm lb n c (fun k=>k=lb))).toArray 65)) w5.heap.size (simC (newS w5.heap.size cb mb db dm fb fm lb n c (fun k=>k=lb))) 65:=Blk.new w5 _ _
 have hz1':=hf12.size
 have hs3:=hf3.size
 have hs4:=hf4.size
 have hs5:=hf5.size
 have hsW:=hfW.size
 have hlc:∀k,chO cb mb [c] k→w.heap.size≤k∧k<w2.heap.size:=fun k hk=>by
  have hs1:=hf1.size
  refine ⟨?_,hC2.lt (fun _ _ h=>h) hk⟩
  rcases hk with rfl | rfl | ⟨d,hd,hk⟩
  ·exact hz1
  ·exact hz2
  ·rw [List.mem_singleton.1 hd] at hk
   rcases hk with rfl | hk
   ·omega
   ·have:=hp1 k hk;omega
 have hlD:∀k,k∈homes db dm []→w3.heap.size≤k∧k<w4.heap.size:=fun k hk=>by
  have h9:=hD4.lt k hk
  simp only [homes,feet,List.flatMap_nil,List.mem_cons,List.not_mem_nil,or_false] at hk
  omega
 have hlF:∀k,filO fb fm none k→w2.heap.size≤k∧k<w3.heap.size:=fun k hk=>by
  have h9:=hF3.lt
  rcases hk with rfl | rfl | hk
  ·omega
  ·omega
  ·exact hk.elim
 have hlL:lb<w5.heap.size:=hL5.blk.lt
 have hS:SimW (w5.alloc (.cells (simC (newS w5.heap.size cb mb db dm fb fm lb n c (fun k=>k=lb))).toArray 65)) (newS w5.heap.size cb mb db dm fb fm lb n c (fun k=>k=lb)):=by
  refine ⟨hBW,((hC2.fr0 hf3).fr0 (hf4.trans0 hf5)).fr0 hfW,(hD4.fr0 hf5).fr0 hfW,⟨((hF3.fr0 hf4).fr0 hf5).fr0 hfW,hne3,(fun x hx=>by cases hx),fun _=>rfl⟩,hL5.fr0 hfW,trivial,(fun x hx=>by cases hx),⟨fun i k hk=>?_,fun i j k hij hi hj=>?_⟩⟩
  ·have hal:(w5.alloc (.cells (simC (newS w5.heap.size cb mb db dm fb fm lb n c (fun k=>k=lb))).toArray 65)).heap.size=w5.heap.size+1:=World.size_alloc _ _
   match i,hk with
   | 0,hk=>rw [show k=w5.heap.size from hk];omega
   | 1,hk=>have:=hlc k hk;omega
   | 2,hk=>have:=hlD k hk;omega
   | 3,hk=>have:=hlF k hk;omega
   | 4,hk=>rw [show k=lb from hk];omega
   | 5,hk=>exact hk.elim
   | 6,hk=>exact hk.elim
   | _+7,hk=>exact hk.elim
  ·have rg:∀i,simF (newS w5.heap.size cb mb db dm fb fm lb n c (fun k=>k=lb)) i k→(i=0∧w5.heap.size≤k)∨(i=1∧k<w2.heap.size)∨(i=3∧w2.heap.size≤k∧k<w3.heap.size)∨(i=2∧w3.heap.size≤k∧k<w4.heap.size)∨(i=4∧w4.heap.size≤k∧k<w5.heap.size):=fun i hk=>by
    match i,hk with
    | 0,hk=>exact .inl ⟨rfl,by rw [show k=w5.heap.size from hk];omega⟩
    | 1,hk=>exact .inr (.inl ⟨rfl,(hlc k hk).2⟩)
    | 2,hk=>exact .inr (.inr (.inr (.inl ⟨rfl,hlD k hk⟩)))
    | 3,hk=>exact .inr (.inr (.inl ⟨rfl,hlF k hk⟩))
    | 4,hk=>exact .inr (.inr (.inr (.inr ⟨rfl,by rw [show k=lb from hk];omega⟩)))
    | 5,hk=>exact hk.elim
    | 6,hk=>exact hk.elim
    | _+7,hk=>exact hk.elim
   have a1:=rg i hi
   have a2:=rg j hj
   omega
 have hlow:∀k,allF (simF (newS w5.heap.size cb mb db dm fb fm lb n c (fun k=>k=lb))) k→w.heap.size≤k:=fun k ⟨i,hk⟩=>by
  match i,hk with
  | 0,hk=>rw [show k=w5.heap.size from hk];omega
  | 1,hk=>exact (hlc k hk).1
  | 2,hk=>have:=hlD k hk;omega
  | 3,hk=>have:=hlF k hk;omega
  | 4,hk=>rw [show k=lb from hk];omega
  | 5,hk=>exact hk.elim
  | 6,hk=>exact hk.elim
  | _+7,hk=>exact hk.elim
 have hfin:=hidIt (And.intro hcx (And.intro hS (And.intro hlow (((hf12.trans0 hf3).trans0 (hf4.trans0 hf5)).trans0 hfW))))
 clear hS hlow hlL hlF hlD hlc hfW hBW hL5 hD4 hF3 hC2 hC1 hcx
 go_wp2
 go_ret2
 exact ⟨_,cb,mb,db,dm,fb,fm,lb,c,_,rfl,hfin.out⟩
end
def secB (c:UInt8):By:=c :: zBy 15
def secPost (w:World) (c:UInt8) (e:Ending) (w':World):Prop:=∃v,e=.returned v∧SlY w' v (secB c)∧(∀k,v.ownBlock=some k→w.heap.size≤k)∧Fr [] w w'
theorem tSector_calls (c:UInt8) (w:World):Calls Tryz.prog 14 #[.int .u8 (c.toNat:Int)] w (secPost w c):=by
 obtain ⟨w2,hrun,hown,hg⟩:=makeY 16 w (by omega)
 have hF:=(Fr.refl [] w).grown hg (fun x hx=>by cases hx)
 have hput:=owns_put hown 0 (.int .u8 (c.toNat:Int))
 obtain ⟨hc,hfz⟩:=owns_at hown (j:=0) (u:=.int .u8 0) rfl
 have hown2:=hidIt (SlF.of_owns (f:=byC) (l:=secB c) hput)
 have hF2:=hF.setCell (p:=⟨w.heap.size,0,none⟩) (.inr (Nat.le_refl _)) (.int .u8 (c.toNat:Int))
 have hrun:(Instr.makeSlice 31 (.int .i64 16) (.int .i64 16)).run Tryz.prog w=.ok (.slice (some ⟨w.heap.size,0,none⟩) 16 16) w2:=hrun
 clear hown hput
 go_enter Tryz.func14,Tryz.ntmps14
 go_wp2
 go_ret
 refine ⟨_,rfl,hown2.out,fun k hk=>?_,hF2⟩
 have:w.heap.size=k:=by simpa [Value.ownBlock] using hk
 omega
theorem secs_cat (V:Nat→By):∀n:Nat,(∀k,k<n→(V k).length=32)→secsV V 0 (2*n)=catN n V
 | 0,_=>rfl
 | n+1,h=>by
   have ih:=secs_cat V n fun k hk=>h k (by omega)
   rw [show 2*(n+1)=2*n+1+1 by omega,secsV_succ,secsV_succ,ih,catN_succ,List.append_assoc]
   congr 1
   have h1:(0+2*n) / 2=n:=by omega
   have h2:(0+2*n) % 2=0:=by omega
   have h3:(0+(2*n+1)) / 2=n:=by omega
   have h4:(0+(2*n+1)) % 2=1:=by omega
   unfold secV
   rw [h1,h2,h3,h4,Nat.mul_zero,Nat.mul_one,List.drop_zero]
   have hl:=h n (by omega)
   rw [List.take_of_length_le (l:=(V n).drop 16) (by rw [List.length_drop];omega)]
   exact List.take_append_drop 16 (V n)
section
variable {w w':World} {S:SimS} {p:List By} {Ws:List (Nat→By)} {W:Nat→By}
theorem tDisk_calls (h:SimW w S) (hO:OkW S p):Calls Tryz.prog 7 #[.pointer (some ⟨S.wb,0,none⟩),.int .i64 (S.n:Int)] w fun e w'=>e=.returned (strL (catN S.n (vw S p)))∧Fr [] w w':=by
 have hn:=hO.n
 have kR:=sRead_calls h hO 0 (2*S.n) (by omega)
 have he:secsV (viewK S.L S.n S.s p) 0 (2*S.n)=catN S.n (vw S p):=by
  rw [secs_cat _ _ fun k hk=>by rw [vw_view hk];exact vw_len hO k]
  exact catN_congr fun k hk=>vw_view hk
 rw [he] at kR
 unfold chReadPost at kR
 generalize catN S.n (vw S p)=B at *
 have hw:IntKind.i64.wrap (2*(S.n:Int))=2*(S.n:Int):=IntWalk.i64_in _ (by omega)
 have hc:((2*S.n:Nat):Int)=2*(S.n:Int):=by omega
 rw [hc] at kR
 go_enter Tryz.func7,Tryz.ntmps7
 go_wp2_with fail
 refine kR.mono ?_
 rintro e w2 ⟨v,rfl,hv,_,_,hf2⟩
 have hcv:=conv_str hv
 have hfin:=hidIt hf2
 clear kR hv hf2 h hO he
 go_wp2
 go_ret
 exact ⟨rfl,hfin.out⟩
def fewP (n:Int) (l:List Evt) (w:World) (e:Ending) (w':World):Prop:=∃b,e=.returned (.bool b)∧Fr [] w w'∧(b=true→1≤n∧n≤6∧l.length≤40)
theorem tFew_calls (n:Int) (n0:Nat) (v:Value) (l:List Evt) (w:World) (hv:EvsW w n0 v l):Calls Tryz.prog 4 #[.int .i64 n,v] w (fewP n l w):=by
 obtain ⟨a,cap,rfl,hlc,hcm⟩:=hv.open
 unfold maxLen at hcm
 go_enter Tryz.func4,Tryz.ntmps4
 go_wp2
 go_loopw [5,7,10] (fun m _ i wr=>∃k:Nat,k≤l.length∧i=.int .i64 k∧(∃q,m=.int .i64 q)∧Fr [] w wr) (fun _ _ i _=>l.length - (intOf i).toNat)
 case atStart=>exact ⟨0,Nat.zero_le _,rfl,⟨0,rfl⟩,Fr.refl _ _⟩
 case round =>
  obtain ⟨k,hk,rfl,⟨m,rfl⟩,hF⟩:=hrel
  by_cases hlt:k<l.length
  ·obtain ⟨b,off,vb,rfl,hb,_,hbv,d0,d1,d2,d3⟩:=(hv.fr0 hF).at hlt
   obtain ⟨vba,vbn,rfl,_⟩:=hbv.sl.open
   generalize l.getD k zEv=o at *
   obtain ⟨x,by_,kd,nm⟩:=o
   simp only at d0 d1 d2 d3
   clear hbv hv
   go_wp2
   go_roundw
   case rel=>exact ⟨k+1,by omega,by go_num,⟨_,rfl⟩,hF.alloc _⟩
   case measure=>simp [intOf];omega
  ·have hke:¬(k:Int)<l.length:=by omega
   clear hv
   by_cases h1:1≤n
   ·by_cases h6:n≤6
    ·by_cases h40:(l.length:Int)≤40
     ·by_cases h3:m≤3000
      ·go_wp2
       go_ret
       exact ⟨_,rfl,hF,fun _=>⟨h1,h6,by omega⟩⟩
      ·go_wp2
       go_ret
       exact ⟨_,rfl,hF,fun h=>by cases h⟩
     ·go_wp2
      go_ret
      exact ⟨_,rfl,hF,fun h=>by cases h⟩
    ·go_wp2
     go_ret
     exact ⟨_,rfl,hF,fun h=>by cases h⟩
   ·go_wp2
    go_ret
    exact ⟨_,rfl,hF,fun h=>by cases h⟩
end
end Go.Proofs.YtffnihooekbcnaaGreat
