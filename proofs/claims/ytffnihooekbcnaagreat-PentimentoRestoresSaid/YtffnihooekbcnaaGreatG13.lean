/-
  Package image: Snaps, Counts, New.
-/
import Derived.Test.YtffnihooekbcnaaGreatG08
import Derived.Test.YtffnihooekbcnaaGreatKeyL
import Derived.Test.YtffnihooekbcnaaGreatG10
import Derived.Test.YtffnihooekbcnaaGreatG11
import Derived.Test.YtffnihooekbcnaaGreatG12
import Derived.WalkMore
import Derived.Laws.RangeAny
set_option maxRecDepth 100000
set_option maxHeartbeats 6400000
namespace Go.Proofs.YtffnihooekbcnaaGreat
open Go.RowKit Go.Maps
attribute [local go_sem] mapAt_alloc mapAt_setCell mapAt_drew mapAt_drewN
def newI (B n r:Nat):Img:={ B:=B,t:=List.replicate n zS,n:=List.replicate r 0,d:=fun _=>none,s:=[] }
theorem newI_ok {B n r:Nat} (hB:B≤3) (hn:n≤256) (hr:r≤512):OkI (newI B n r):=by
 have h0:∀s∈(newI B n r).t,s=zS:=fun s hs=>List.eq_of_mem_replicate hs
 have hc:∀h,cntT (newI B n r).t h=0:=fun h=>by
  have:¬0<cntT (newI B n r).t h:=fun hp=>by
   obtain ⟨s,hs,h1,_⟩:=cntT_pos.1 hp
   rw [h0 s hs] at h1
   simp [zS] at h1
  omega
 have hg:∀h,ng (newI B n r) h=0:=fun h=>by
  unfold ng newI
  simp only [List.getD_eq_getElem?_getD,List.getElem?_replicate]
  split <;> rfl
 refine ⟨⟨hB,by simp [newI,hn],by simp [newI,hr],fun s hs=>by rw [h0 s hs];rfl,fun p hp=>by simp [newI] at hp,fun p hp=>by simp [newI] at hp,fun h=>?_,fun h=>by rw [hc];omega,fun p hp=>by simp [newI] at hp,fun h _=>rfl,fun h hp=>by rw [hg] at hp;omega,fun p hp=>by simp [newI] at hp,by simp [newI],by simp [newI]⟩,fun s hs h1=>by rw [h0 s hs] at h1;simp [zS] at h1⟩
 rw [hg]
 unfold refs
 rw [hc]
 rfl
theorem newI_free (B n r:Nat):freeN (newI B n r).n=r:=by
 unfold freeN newI
 simp [List.countP_replicate]
theorem ImgW.start {w:World} {ib tb mb nb db B:Nat} {nv:Value} {t:List Slt} {n:List Nat} {es:Array MapEntry} {clock:Nat} (hT:TabW w tb mb t) (hC:CntW w nb nv n) (hm:mapAt w db=some (es,clock)) (hi:IsM Tryz.prog 3 es clock (fun _=>none))
 (hB:Blk w ib [.int .i64 (B:Int),.pointer (some ⟨tb,0,none⟩),.pointer (some ⟨nb,0,none⟩),.map (some db),.slice none 0 0] 197) (hne:db≠mb) {b0:Nat} (h1:b0≤tb) (h2:b0≤mb) (h3:b0≤nb) (h4:∀k,nv.ownBlock=some k→b0≤k) (h5:b0≤db) (h6:b0≤ib) :
 ∃p,ImgW w ib p { B:=B,t:=t,n:=n,d:=fun _=>none,s:=[] }∧(∀k,(p.r k).isSome=true→b0≤k)∧p.tb=tb∧p.nb=nb∧p.db=db∧p.sv=.slice none 0 0:=by
 obtain ⟨es1,c1,hm1,_⟩:=hT.map
 have e1:=mapAt_some.1 hm1
 have e2:=mapAt_some.1 hm
 have bt:=hT.blk
 have bn:=hC.blk
 have n1:tb≠ib:=fun e=>by rw [e] at bt;have:=bt.symm.trans hB;cases this
 have n2:mb≠ib:=fun e=>by rw [e] at e1;have:=e1.symm.trans hB;cases this
 have n3:nb≠ib:=fun e=>by rw [e] at bn;have:=bn.symm.trans hB;cases this
 have n4:db≠ib:=fun e=>by rw [e] at e2;have:=e2.symm.trans hB;cases this
 have n5:mb≠tb:=fun e=>hT.ne e.symm
 have n6:nb≠tb:=fun e=>by rw [e] at bn;have:=bn.symm.trans bt;cases this
 have n7:db≠tb:=fun e=>by rw [e] at e2;have:=e2.symm.trans bt;cases this
 have n8:nb≠mb:=fun e=>by rw [e] at bn;have:=bn.symm.trans e1;cases this
 have n9:db≠nb:=fun e=>by rw [e] at e2;have:=e2.symm.trans bn;cases this
 have hrow:∀k,nv.ownBlock=some k→∃cur,w.heap[k]? = some (.cells cur 3 (0,0)):=fun k hk=>by
  rcases hC.row.2 with ⟨h,_⟩ | ⟨g,cap,cur,hv,_,hg,_⟩
  ·rw [h] at hk;cases hk
  ·rw [hv] at hk
   cases hk
   exact ⟨cur,hg⟩
 have m1:∀k,nv.ownBlock=some k→k≠ib∧k≠tb∧k≠mb∧k≠nb∧k≠db:=fun k hk=>by
  obtain ⟨cur,hg⟩:=hrow k hk
  refine ⟨fun e=>?_,fun e=>?_,fun e=>?_,fun e=>?_,fun e=>?_⟩
  ·rw [e] at hg;have:=hg.symm.trans hB;cases this
  ·rw [e] at hg;have:=hg.symm.trans bt;cases this
  ·rw [e] at hg;have:=hg.symm.trans e1;cases this
  ·rw [e] at hg;have:=hg.symm.trans bn;cases this
  ·rw [e] at hg;have:=hg.symm.trans e2;cases this
 refine ⟨{ tb:=tb,mb:=mb,nb:=nb,db:=db,nv:=nv,sv:=.slice none 0 0,sp:=[],dv:=fun _=>.slice none 0 0,r:=fun k=>if k=ib then some 0 else if k=tb then some 1 else if k=mb then some 2 else if k=nb then some 3 else if nv.ownBlock=some k then some 4 else if k=db then some 5 else none },?_,?_,rfl,rfl,rfl,rfl⟩
 ·refine ⟨hB,hT,hC,⟨es,clock,hm,?_⟩,(fun _ _ h=>by cases h),World.ownsRow_nil _ _ _ _,rfl,(fun i hi=>by simp at hi),fun k hk=>?_,by simp,by simp [n1],by simp [n2,n5],by simp [n3,n6,n8],fun k hk=>?_,?_,(fun k hk=>by cases hk),(fun i hi=>by simp at hi),(fun _ _ h=>by cases h)⟩
  ·have:(fun _=>none)=datM { B:=B,t:=t,n:=n,d:=fun _=>none,s:=[] } { tb:=tb,mb:=mb,nb:=nb,db:=db,nv:=nv,sv:=.slice none 0 0,sp:=[],dv:=fun _=>.slice none 0 0,r:=fun k=>if k=ib then some 0 else if k=tb then some 1 else if k=mb then some 2 else if k=nb then some 3 else if nv.ownBlock=some k then some 4 else if k=db then some 5 else none }:=by
    funext v
    cases v with
    | int q k=>cases q <;> first | rfl | (rw [datM_int];split <;> rfl)
    | _=>rfl
   rwa [this] at hi
  ·by_cases x1:k=ib
   ·rw [x1];exact hB.lt
   ·by_cases x2:k=tb
    ·rw [x2];exact bt.lt
    ·by_cases x3:k=mb
     ·rw [x3];exact hT.lt.2
     ·by_cases x4:k=nb
      ·rw [x4];exact bn.lt
      ·by_cases x5:nv.ownBlock=some k
       ·obtain ⟨cur,hg⟩:=hrow k x5
        exact (Array.getElem?_eq_some_iff.1 hg).1
       ·by_cases x6:k=db
        ·rw [x6];exact mapAt_lt hm
        ·simp [x1,x2,x3,x4,x5,x6] at hk
  ·obtain ⟨a1,a2,a3,a4,_⟩:=m1 k hk
   simp only [a1,a2,a3,a4,if_false]
   rw [if_pos hk]
  ·have:¬nv.ownBlock=some db:=fun e=>(m1 db e).2.2.2.2 rfl
   simp [n4,n7,hne,n9,this]
 ·intro k hk
  by_cases x1:k=ib
  ·omega
  ·by_cases x2:k=tb
   ·omega
   ·by_cases x3:k=mb
    ·omega
    ·by_cases x4:k=nb
     ·omega
     ·by_cases x5:nv.ownBlock=some k
      ·exact h4 k x5
      ·by_cases x6:k=db
       ·omega
       ·simp [x1,x2,x3,x4,x5,x6] at hk
def okSeat (B n r:Int):Prop:=(0≤B∧B≤3)∧(0≤n∧n≤256)∧(0≤r∧r≤512)
def newIPost (w:World) (B n r:Nat) (e:Ending) (w':World):Prop:=∃ib p,e=.returned (.tuple #[.pointer (some ⟨ib,0,none⟩),.int .i64 0])∧ImgW w' ib p (newI B n r)∧(∀k,(p.r k).isSome=true→w.heap.size≤k)∧Fr [] w w'
theorem iNew_yes (B n r:Nat) (w:World) (h:okSeat B n r):Calls Tryz.prog 70 #[.int .i64 (B:Int),.int .i64 (n:Int),.int .i64 (r:Int)] w (newIPost w B n r):=by
 obtain ⟨hB,hn,hr⟩:=h
 have kT:=New_yes (n:Int) w (by simp [okSize];omega)
 have kC:=fun W=>cNew_yes r W (by omega)
 have hmm:=@run_makeMap Tryz.prog
 unfold newIPost
 rw [Int.toNat_natCast] at kT
 go_enter Tryz.func70,Tryz.ntmps70
 go_wp2_with fail
 refine kT.mono ?_
 rintro e w1 ⟨tb,mb,rfl,ht,hm,hT,hf1⟩
 go_wp2_with fail
 refine (kC _).mono ?_
 rintro e w2 ⟨nb,rv,rfl,hC,hnb,hrv,hf2⟩
 clear kT kC
 have z1:=hf1.size
 have z2:=hf2.size
 have hlt:=hT.lt
 have hF:=(hf1.trans0 hf2).alloc (.map #[] 0)
 have hF2:=hF.alloc (.cells #[.int .i64 (B:Int),.pointer (some ⟨tb,0,none⟩),.pointer (some ⟨nb,0,none⟩),.map (some w2.heap.size),.slice none 0 0] 197)
 have hfa:=((Fr.refl [] w2).alloc (.map #[] 0)).alloc (.cells #[.int .i64 (B:Int),.pointer (some ⟨tb,0,none⟩),.pointer (some ⟨nb,0,none⟩),.map (some w2.heap.size),.slice none 0 0] 197)
 obtain ⟨p,hI,hnew,_⟩:=ImgW.start (b0:=w.heap.size) ((hT.fr0 hf2).fr0 hfa) (hC.fr0 hfa) (db:=w2.heap.size) (es:=#[]) (clock:=0) (by rw [mapAt_alloc _ (by simp),mapAt_some];exact heap_alloc_new w2 _) IsM.empty (ib:=w2.heap.size+1) (B:=B) (Blk.new' (by simp) _ _) (by omega) ht hm (by omega) (fun k hk=>by have:=hrv k hk;omega) (by omega) (by omega)
 have HI:=hidIt hI
 clear hI hT hC hfa
 go_wp2
 go_ret2
 exact ⟨_,p,rfl,HI.out,hnew,hF2⟩
end Go.Proofs.YtffnihooekbcnaaGreat
namespace Go.Proofs.YtffnihooekbcnaaGreat
open Go.RowKit Go.Maps
attribute [local go_sem] mapAt_alloc mapAt_setCell mapAt_drew mapAt_drewN cells_str store_str eql_str neq_str guard_str len_str
structure Cd where
 x:Dk
 db:Nat
 ib:Nat
 p:Pl
def Cd.nm (c:Cd):By:=c.x.nm
def Cd.ptr (c:Cd):Value:=.pointer (some ⟨c.db,0,none⟩)
def fK (L:List Cd) (s:By):Option Cd:=nlFind Cd.nm L s
theorem fK_D (L:List Cd) (s:By):fD (L.map (·.x)) s=(fK L s).map (·.x):=by
 unfold fD fK nlFind
 rw [List.find?_map]
 rfl
theorem fK_of {L:List Cd} {s:By} {d:Dk} (h:fD (L.map (·.x)) s=some d):∃c,fK L s=some c∧c.x=d:=by
 rw [fK_D] at h
 exact Option.map_eq_some_iff.1 h
structure ChG (ex:By→Prop) (w:World) (cb mb bits room:Nat) (L:List Cd):Prop where
 blk:Blk w cb [.int .i64 (bits:Int),.int .i64 (room:Int),.map (some mb)] 117
 map:∃es clock,mapAt w mb=some (es,clock)∧IsM Tryz.prog 9 es clock (nlM Cd.nm Cd.ptr L)
 dks:∀c∈L,Blk w c.db [.pointer (some ⟨c.ib,0,none⟩),strL c.x.bk] 121
 img:∀c∈L,¬ex c.nm→ImgW w c.ib c.p c.x.M
 rising:NlRising Cd.nm L
 ap:∀c∈L,∀d∈L,c.nm≠d.nm→(∀k,(c.p.r k).isSome=true→d.p.r k=none)∧c.db≠d.db
 hm:∀c∈L,c.p.r cb=none∧c.p.r mb=none∧c.db≠cb∧∀d∈L,c.p.r d.db=none
 low:∀c∈L,¬ex c.nm→∀k,(c.p.r k).isSome=true→k<w.heap.size
def noEx (_:By):Prop:=False
abbrev ChW:=ChG noEx
def chO (cb mb:Nat) (L:List Cd) (k:Nat):Prop:=k=cb∨k=mb∨∃c∈L,k=c.db∨(c.p.r k).isSome=true
structure StepO (w:World) (o:Nat→Prop) (w':World) (o':Nat→Prop):Prop where
 fr:∃M,Fr M w w'∧∀k∈M,k<w.heap.size→o k
 new:∀k,o' k→o k∨w.heap.size≤k
theorem StepO.size {w w':World} {o o':Nat→Prop} (h:StepO w o w' o'):w.heap.size≤w'.heap.size:=by obtain ⟨M,hf,_⟩:=h.fr;exact hf.size
theorem StepO.fr0 {w w':World} {o:Nat→Prop} (hf:Fr [] w w'):StepO w o w' o:=⟨⟨[],hf,fun _ h=>by cases h⟩,fun _ h=>.inl h⟩
theorem StepO.trans {w1 w2 w3:World} {o1 o2 o3:Nat→Prop} (h:StepO w1 o1 w2 o2) (h':StepO w2 o2 w3 o3):StepO w1 o1 w3 o3:=by
 obtain ⟨M,hf,hM⟩:=h.fr
 obtain ⟨M',hf',hM'⟩:=h'.fr
 refine ⟨⟨M++M',?_,fun k hk hl=>?_⟩,fun k hk=>?_⟩
 ·exact (hf.mono (M:=M++M') (fun x hx _=>List.mem_append_left _ hx)).trans hf' (fun x hx _=>List.mem_append_right _ hx)
 ·rcases List.mem_append.1 hk with hk | hk
  ·exact hM k hk hl
  ·rcases h.new k (hM' k hk (Nat.lt_of_lt_of_le hl hf.size)) with h1 | h1
   ·exact h1
   ·omega
 ·rcases h'.new k hk with h1 | h1
  ·exact h.new k h1
  ·exact .inr (Nat.le_trans h.size h1)
theorem StepO.out {w w':World} {o o':Nat→Prop} (h:StepO w o w' o') {k:Nat} (hk:¬o k) (hl:k<w.heap.size):¬o' k:=fun h1=>by
 rcases h.new k h1 with h2 | h2
 ·exact hk h2
 ·omega
theorem StepO.blk {w w':World} {o o':Nat→Prop} (h:StepO w o w' o') {k:Nat} {vs:List Value} {t:TypeId} (hb:Blk w k vs t) (hk:¬o k):Blk w' k vs t:=by
 obtain ⟨M,hf,hM⟩:=h.fr
 exact hb.fr hf fun hm=>hk (hM k hm hb.lt)
section
variable {ex:By→Prop} {w w':World} {cb mb bits room:Nat} {L:List Cd}
theorem ChG.lt (h:ChG ex w cb mb bits room L) (hex:∀c∈L,¬ex c.nm) {k:Nat} (hk:chO cb mb L k):k<w.heap.size:=by
 rcases hk with rfl | rfl | ⟨c,hc,rfl | hk⟩
 ·exact h.blk.lt
 ·obtain ⟨es,c,hm,_⟩:=h.map;exact mapAt_lt hm
 ·exact (h.dks c hc).lt
 ·exact h.low c hc (hex c hc) k hk
theorem ChG.fr {M:List Nat} (h:ChG ex w cb mb bits room L) (hf:Fr M w w') (hn:∀k∈M,¬chO cb mb L k):ChG ex w' cb mb bits room L:=by
 obtain ⟨es,clock,hm,hi⟩:=h.map
 have hno:∀{k},chO cb mb L k→k ∉ M:=fun hk hm=>hn _ hm hk
 refine ⟨h.blk.fr hf (hno (.inl rfl)),⟨es,clock,mapAt_fr hm hf (hno (.inr (.inl rfl))),hi⟩,fun c hc=>(h.dks c hc).fr hf (hno (.inr (.inr ⟨c,hc,.inl rfl⟩))),fun c hc he=>(h.img c hc he).fr hf fun k hk=>?_,h.rising,h.ap,h.hm,fun c hc he k hk=>Nat.lt_of_lt_of_le (h.low c hc he k hk) hf.size⟩
 cases e:c.p.r k with
 | none=>rfl
 | some x=>exact absurd hk (hno (.inr (.inr ⟨c,hc,.inr (by rw [e];rfl)⟩)))
theorem ChG.fr0 (h:ChG ex w cb mb bits room L) (hf:Fr [] w w'):ChG ex w' cb mb bits room L:=h.fr hf fun _ h=>by cases h
theorem ChG.find (_:ChG ex w cb mb bits room L) {s:By} {c:Cd} (hc:fK L s=some c):c∈L∧c.nm=s:=nlFind_mem hc
def Cd.put (p:Pl) (M:Img) (d:Cd):Cd:=⟨{ d.x with M:=M },d.db,d.ib,p⟩
def setK (L:List Cd) (s:By) (p:Pl) (M:Img):List Cd:=nlMod Cd.nm L s (Cd.put p M)
theorem setK_x (L:List Cd) (s:By) (p:Pl) (M:Img):(setK L s p M).map (·.x)=setM (L.map (·.x)) s M:=by
 unfold setK setM nlMod
 rw [List.map_map,List.map_map]
 refine List.map_congr_left fun d _=>?_
 simp only [Function.comp]
 by_cases e:d.nm=s
 ·have e':d.x.nm=s:=e
  rw [if_pos e,if_pos e']
  rfl
 ·have e':¬d.x.nm=s:=e
  rw [if_neg e,if_neg e']
theorem fK_set (L:List Cd) (s:By) (p:Pl) (M:Img) (t:By):fK (setK L s p M) t=(fK L t).map fun d=>if t=s then d.put p M else d:=nlFind_mod (nm:=Cd.nm) (f:=Cd.put p M) (fun _=>rfl) t
theorem mem_setK {s:By} {p:Pl} {M:Img} {c:Cd} (hc:c∈setK L s p M):∃d∈L,c.nm=d.nm∧c.db=d.db∧c.ib=d.ib∧c.x.bk=d.x.bk∧((d.nm=s∧c.p=p∧c.x.M=M)∨(d.nm≠s∧c=d)):=by
 obtain ⟨d,hd,rfl⟩:=mem_nlMod.1 hc
 refine ⟨d,hd,?_⟩
 by_cases e:d.nm=s
 ·rw [if_pos e];exact ⟨rfl,rfl,rfl,rfl,.inl ⟨e,rfl,rfl⟩⟩
 ·rw [if_neg e];exact ⟨rfl,rfl,rfl,rfl,.inr ⟨e,rfl⟩⟩
theorem chO_set {s:By} {p:Pl} {M:Img} {k:Nat} (h:chO cb mb (setK L s p M) k):chO cb mb L k∨(p.r k).isSome=true:=by
 rcases h with h | h | ⟨d,hd,h⟩
 ·exact .inl (.inl h)
 ·exact .inl (.inr (.inl h))
 ·obtain ⟨d',hd',_,h2,_,_,h3⟩:=mem_setK hd
  rcases h with h | h
  ·exact .inl (.inr (.inr ⟨d',hd',.inl (by rw [h,h2])⟩))
  ·rcases h3 with ⟨_,h4,_⟩ | ⟨_,h4⟩
   ·rw [h4] at h;exact .inr h
   ·subst h4;exact .inl (.inr (.inr ⟨_,hd',.inr h⟩))
theorem ChG.step {s:By} {c:Cd} {p':Pl} (h:ChG ex w cb mb bits room L) (hc:fK L s=some c) (hex:∀t,ex t→t=s) (hs:Step w c.p w' p') (M':Img):ChG (fun t=>t=s) w' cb mb bits room (setK L s p' M'):=by
 obtain ⟨hcm,hcs⟩:=h.find hc
 have hone:∀d∈L,d.nm=s→d=c:=fun d hd e=>h.rising.inj hd hcm (e.trans hcs.symm)
 have hown:∀k,c.p.r k=none→k ∉ own c.p w:=fun k hk hm=>by have:=(mem_own.1 hm).2;rw [hk] at this;cases this
 have hnew:∀k,k<w.heap.size→c.p.r k=none→p'.r k=none:=fun k hl hk=>by
  cases e:p'.r k with
  | none=>rfl
  | some x =>
    rcases hs.new k (by rw [e];rfl) with h1 | h1
    ·rw [hk] at h1;cases h1
    ·omega
 have hother:∀d∈L,d.nm≠s→∀k,(d.p.r k).isSome=true→c.p.r k=none:=fun d hd hne k hk=>(h.ap d hd c hcm (by rw [hcs];exact hne)).1 k hk
 obtain ⟨es,clock,hm,hi⟩:=h.map
 obtain ⟨hc1,hc2,hc3,hc4⟩:=h.hm c hcm
 refine ⟨h.blk.fr hs.fr (hown _ hc1),⟨es,clock,mapAt_fr hm hs.fr (hown _ hc2),?_⟩,?_,?_,nlMod_rising h.rising fun _=>rfl,?_,?_,?_⟩
 ·unfold setK
  rw [←nlM_mod (nm:=Cd.nm) (ptr:=Cd.ptr) (f:=Cd.put p' M') (fun _=>rfl) (fun _=>rfl)]
  exact hi
 ·intro d hd
  obtain ⟨d',hd',h1,h2,h3,h4,_⟩:=mem_setK hd
  rw [h2,h3,h4]
  exact (h.dks d' hd').fr hs.fr (hown _ (hc4 d' hd'))
 ·intro d hd he
  obtain ⟨d',hd',h1,h2,h3,h4,h5⟩:=mem_setK hd
  rcases h5 with ⟨h6,_⟩ | ⟨h6,h7⟩
  ·exact absurd (h1.trans h6) he
  ·subst h7
   refine (h.img d hd' (fun h=>he (hex _ h))).fr hs.fr fun k hk=>?_
   cases e:d.p.r k with
   | none=>rfl
   | some x=>exact absurd hk (hown k (hother d hd' h6 k (by rw [e];rfl)))
 ·intro d hd e he hne
  obtain ⟨d',hd',h1,h2,_,_,h5⟩:=mem_setK hd
  obtain ⟨e',he',g1,g2,_,_,g5⟩:=mem_setK he
  have hne':d'.nm≠e'.nm:=by rw [←h1,←g1];exact hne
  refine ⟨fun k hk=>?_,by rw [h2,g2];exact (h.ap d' hd' e' he' hne').2⟩
  rcases h5 with ⟨h6,h7,_⟩ | ⟨h6,h7⟩ <;> rcases g5 with ⟨g6,g7,_⟩ | ⟨g6,g7⟩
  ·exact absurd (h6.trans g6.symm) hne'
  ·subst g7
   rw [h7] at hk
   cases e2:e.p.r k with
   | none=>rfl
   | some x =>
     have h8:=hother e he' g6 k (by rw [e2];rfl)
     have h9:=hnew k (h.low e he' (fun h=>g6 (hex _ h)) k (by rw [e2];rfl)) h8
     rw [h9] at hk
     cases hk
  ·subst h7
   rw [g7]
   exact hnew k (h.low d hd' (fun h=>h6 (hex _ h)) k hk) (hother d hd' h6 k hk)
  ·subst h7 g7
   exact (h.ap d hd' e he' hne').1 k hk
 ·intro d hd
  obtain ⟨d',hd',h1,h2,_,_,h5⟩:=mem_setK hd
  have h0:=h.hm d' hd'
  have hdb:∀e∈setK L s p' M',∃e'∈L,e.db=e'.db:=fun e he=>by obtain ⟨e',he',_,g2,_⟩:=mem_setK he;exact ⟨e',he',g2⟩
  rcases h5 with ⟨h6,h7,_⟩ | ⟨h6,h7⟩
  ·rw [h7,h2]
   refine ⟨hnew _ h.blk.lt hc1,hnew _ (mapAt_lt hm) hc2,h0.2.2.1,fun e he=>?_⟩
   obtain ⟨e',he',g2⟩:=hdb e he
   rw [g2]
   exact hnew _ (h.dks e' he').lt (hc4 e' he')
  ·subst h7
   refine ⟨h0.1,h0.2.1,h0.2.2.1,fun e he=>?_⟩
   obtain ⟨e',he',g2⟩:=hdb e he
   rw [g2]
   exact h0.2.2.2 e' he'
 ·intro d hd he k hk
  obtain ⟨d',hd',h1,h2,_,_,h5⟩:=mem_setK hd
  rcases h5 with ⟨h6,h7,_⟩ | ⟨h6,h7⟩
  ·exact absurd (h1.trans h6) he
  ·subst h7;exact Nat.lt_of_lt_of_le (h.low d hd' (fun h=>h6 (hex _ h)) k hk) hs.fr.size
theorem ChG.fill {s:By} {c:Cd} {p:Pl} {M:Img} (h:ChG (fun t=>t=s) w cb mb bits room (setK L s p M)) (hL:NlRising Cd.nm L) (hc:fK L s=some c) (hI:ImgW w c.ib p M):ChG noEx w cb mb bits room (setK L s p M):=by
 have hin:∀d∈setK L s p M,d.nm=s→d.ib=c.ib∧d.p=p∧d.x.M=M:=fun d hd e=>by
  obtain ⟨d',hd',h1,_,h3,_,h5⟩:=mem_setK hd
  have h6:d'=c:=hL.inj hd' (nlFind_mem hc).1 ((h1.symm.trans e).trans (nlFind_mem hc).2.symm)
  rcases h5 with ⟨_,h7,h8⟩ | ⟨h7,_⟩
  ·exact ⟨by rw [h3,h6],h7,h8⟩
  ·exact absurd (h1.symm.trans e) h7
 refine ⟨h.blk,h.map,h.dks,fun d hd _=>?_,h.rising,h.ap,h.hm,fun d hd _ k hk=>?_⟩
 ·by_cases e:d.nm=s
  ·obtain ⟨h1,h2,h3⟩:=hin d hd e
   rw [h1,h2,h3];exact hI
  ·exact h.img d hd e
 ·by_cases e:d.nm=s
  ·rw [(hin d hd e).2.1] at hk;exact hI.low k hk
  ·exact h.low d hd e k hk
theorem ChG.put {s:By} {c:Cd} {p':Pl} {M':Img} (h:ChG noEx w cb mb bits room L) (hc:fK L s=some c) (hI:ImgW w' c.ib p' M') (hs:Step w c.p w' p'):ChG noEx w' cb mb bits room (setK L s p' M') :=
 (h.step hc (fun _ h=>h.elim) hs M').fill h.rising hc hI
theorem setK_again (L:List Cd) (s:By) (p q:Pl) (M N:Img):setK (setK L s p M) s q N=setK L s q N:=by
 unfold setK nlMod
 rw [List.map_map]
 refine List.map_congr_left fun d _=>?_
 simp only [Function.comp]
 by_cases e:d.nm=s
 ·rw [if_pos e]
  have:(Cd.put p M d).nm=s:=e
  rw [if_pos this,if_pos e]
  rfl
 ·rw [if_neg e,if_neg e]
theorem ChG.any {s:By} {p:Pl} {M:Img} (M':Img) (h:ChG (fun t=>t=s) w cb mb bits room (setK L s p M)):ChG (fun t=>t=s) w cb mb bits room (setK L s p M'):=by
 have hto:∀{d},d∈setK L s p M'→∃d'∈setK L s p M,d.nm=d'.nm∧d.db=d'.db∧d.ib=d'.ib∧d.p=d'.p∧d.x.bk=d'.x.bk∧(d.nm≠s→d=d'):=fun {d} hd=>by
  obtain ⟨e,he,rfl⟩:=mem_nlMod.1 hd
  refine ⟨if e.nm=s then e.put p M else e,mem_nlMod.2 ⟨e,he,rfl⟩,?_⟩
  by_cases h1:e.nm=s
  ·rw [if_pos h1,if_pos h1]
   exact ⟨rfl,rfl,rfl,rfl,rfl,fun h2=>absurd h1 h2⟩
  ·rw [if_neg h1,if_neg h1]
   exact ⟨rfl,rfl,rfl,rfl,rfl,fun _=>rfl⟩
 obtain ⟨es,clock,hm,hi⟩:=h.map
 refine ⟨h.blk,⟨es,clock,hm,?_⟩,fun d hd=>?_,fun d hd he=>?_,?_,fun d hd e he hne=>?_,fun d hd=>?_,fun d hd he=>?_⟩
 ·have h1:=nlM_mod (nm:=Cd.nm) (ptr:=Cd.ptr) (L:=L) (s:=s) (f:=Cd.put p M) (fun _=>rfl) (fun _=>rfl)
  have h2:=nlM_mod (nm:=Cd.nm) (ptr:=Cd.ptr) (L:=L) (s:=s) (f:=Cd.put p M') (fun _=>rfl) (fun _=>rfl)
  unfold setK at hi ⊢
  rw [←h2,h1]
  exact hi
 ·obtain ⟨d',hd',_,h2,h3,_,h5,_⟩:=hto hd
  rw [h2,h3,h5];exact h.dks d' hd'
 ·obtain ⟨d',hd',_,_,_,_,_,h6⟩:=hto hd
  have e:=h6 he
  rw [e] at he ⊢
  exact h.img d' hd' he
 ·have h0:=h.rising
  unfold NlRising setK nlMod at h0 ⊢
  rw [List.pairwise_map] at h0 ⊢
  refine h0.imp fun {a b} hab=>?_
  have e:∀(M0:Img) (a:Cd),(if a.nm=s then Cd.put p M0 a else a).nm=a.nm:=fun M0 a=>by split <;> rfl
  rw [e,e] at hab ⊢
  exact hab
 ·obtain ⟨d',hd',h1,h2,_,h4,_,_⟩:=hto hd
  obtain ⟨e',he',g1,g2,_,g4,_,_⟩:=hto he
  rw [h2,h4,g2,g4]
  exact h.ap d' hd' e' he' (by rw [←h1,←g1];exact hne)
 ·obtain ⟨d',hd',_,h2,_,h4,_,_⟩:=hto hd
  obtain ⟨a1,a2,a3,a4⟩:=h.hm d' hd'
  rw [h2,h4]
  refine ⟨a1,a2,a3,fun e he=>?_⟩
  obtain ⟨e',he',_,g2,_⟩:=hto he
  rw [g2];exact a4 e' he'
 ·obtain ⟨d',hd',_,_,_,_,_,h6⟩:=hto hd
  have e:=h6 he
  rw [e] at he ⊢
  exact h.low d' hd' he
theorem chO_step {s:By} {c:Cd} {p':Pl} {M':Img} (h:ChG ex w cb mb bits room L) (hc:fK L s=some c) (hs:Step w c.p w' p'):StepO w (chO cb mb L) w' (chO cb mb (setK L s p' M')):=by
 obtain ⟨hcm,hcs⟩:=h.find hc
 refine ⟨⟨own c.p w,hs.fr,fun k hk _=>.inr (.inr ⟨c,hcm,.inr (mem_own.1 hk).2⟩)⟩,fun k hk=>?_⟩
 rcases chO_set hk with h1 | h1
 ·exact .inl h1
 ·rcases hs.new k h1 with h2 | h2
  ·exact .inl (.inr (.inr ⟨c,hcm,.inr h2⟩))
  ·exact .inr h2
def kpt:Option Cd→Value
 | some c=>c.ptr
 | none=>.pointer none
theorem kpt_getD (o:Option Cd):(o.map Cd.ptr).getD (.pointer none)=kpt o:=by cases o <;> rfl
theorem zeroDisk (W:World):(zeroValue 118).run Tryz.prog W=.ok (.pointer none) W:=by kernel_rfl
theorem lookK {es:Array MapEntry} {clock:Nat} (hi:IsM Tryz.prog 9 es clock (nlM Cd.nm Cd.ptr L)) {s:By} (hs:s.length≤maxLen) (W:World) (hm:mapAt W mb=some (es,clock)) :
 (Instr.lookup 115 (.map (some mb)) (strL s) false).run Tryz.prog W=.ok (kpt (fK L s)) W:=by
 rw [run_lookup_isM Tryz.underlying115 keyedStr hi false (keyStr hs) W (zeroDisk W) hm,nlM_str,kpt_getD]
 rfl
theorem ChG.look (h:ChG ex w cb mb bits room L) {s:By} (hs:s.length≤maxLen):∀X,Fr [] w X→(Instr.lookup 115 (.map (some mb)) (strL s) false).run Tryz.prog X=.ok (kpt (fK L s)) X:=fun X hX=>by
 obtain ⟨es,clock,hm,hi⟩:=h.map
 exact lookK hi hs X (mapAt_fr hm hX (by simp))
theorem chImage_calls (s:By) (h:ChG ex w cb mb bits room L) (hs:s.length≤maxLen):Calls Tryz.prog 86 #[.pointer (some ⟨cb,0,none⟩),strL s] w fun e w'=>e=.returned (match fK L s with | some c=>.pointer (some ⟨c.ib,0,none⟩) | none=>.pointer none)∧w'=w:=by
 have c0:=h.blk.cell
 have hl:=h.look hs w (Fr.refl _ _)
 have hd:=h.dks
 clear h
 go_enter Tryz.func86,Tryz.ntmps86
 cases hc:fK L s with
 | none =>
   rw [hc] at hl
   unfold kpt at hl
   clear hd
   go_wp2
   go_ret
   exact ⟨rfl,rfl⟩
 | some c =>
   have c1:=(hd c (nlFind_mem hc).1).cell
   rw [hc] at hl
   unfold kpt Cd.ptr at hl
   clear hd hc
   go_wp2
   go_ret
   exact ⟨rfl,rfl⟩
theorem chBacking_calls (s:By) (h:ChG ex w cb mb bits room L) (hs:s.length≤maxLen):Calls Tryz.prog 90 #[.pointer (some ⟨cb,0,none⟩),strL s] w fun e w'=>e=.returned (match fK L s with | some c=>.tuple #[strL c.x.bk,.int .i64 0] | none=>.tuple #[strL [],.int .i64 140])∧w'=w:=by
 have c0:=h.blk.cell
 have hl:=h.look hs w (Fr.refl _ _)
 have hd:=h.dks
 clear h
 go_enter Tryz.func90,Tryz.ntmps90
 cases hc:fK L s with
 | none =>
   rw [hc] at hl
   unfold kpt at hl
   clear hd
   go_wp2
   go_ret2
   exact ⟨rfl,rfl⟩
 | some c =>
   have c1:=(hd c (nlFind_mem hc).1).cell
   rw [hc] at hl
   unfold kpt Cd.ptr at hl
   clear hd hc
   go_wp2
   go_ret2
   exact ⟨rfl,rfl⟩
theorem chKnown_calls (s:By) (h:ChG ex w cb mb bits room L) (hs:s.length≤maxLen):Calls Tryz.prog 71 #[.pointer (some ⟨cb,0,none⟩),strL s] w fun e w'=>e=.returned (.bool (decide (s=[]) || (fK L s).isSome))∧w'=w:=by
 have c0:=h.blk.cell
 have hl:=h.look hs w (Fr.refl _ _)
 clear h
 have he:Value.string ⟨#[]⟩=strL []:=rfl
 by_cases h0:s=[]
 ·subst h0
  go_enter Tryz.func71,Tryz.ntmps71
  rw [he]
  go_wp2
  go_ret
  exact ⟨rfl,rfl⟩
 ·have hd0:decide (s=[])=false:=decide_eq_false h0
  cases hc:fK L s with
  | none =>
    rw [hc] at hl
    unfold kpt at hl
    clear hc h0
    go_enter Tryz.func71,Tryz.ntmps71
    rw [he]
    go_wp2
    go_ret
    exact ⟨rfl,rfl⟩
  | some c =>
    rw [hc] at hl
    unfold kpt Cd.ptr at hl
    clear hc h0
    go_enter Tryz.func71,Tryz.ntmps71
    rw [he]
    go_wp2
    go_ret
    exact ⟨rfl,rfl⟩
theorem chNames_calls (h:ChG ex w cb mb bits room L) (hf16:L.length≤16):Calls Tryz.prog 146 #[.pointer (some ⟨cb,0,none⟩)] w fun e w'=>∃v,e=.returned v∧SlT w' v (L.map Cd.nm)∧Fr [] w w'∧∀k,v.ownBlock=some k→w.heap.size≤k:=by
 have c0:=h.blk.cell 2
 obtain ⟨es,clock,hm,hi⟩:=h.map
 have hsz:=nl_size h.rising hi
 have hlt:=mapAt_lt hm
 have hsort:(L.map Cd.nm).Pairwise (·<·):=by rw [List.pairwise_map];exact h.rising
 have hmem:∀k:List UInt8,k∈(L.map Cd.nm) ↔ (nlM Cd.nm Cd.ptr L (strL k)).isSome=true:=by
  intro k
  rw [←nl_key]
  simp only [List.mem_map]
  constructor
  ·rintro ⟨c,hc,rfl⟩;exact ⟨c,hc,rfl⟩
  ·rintro ⟨c,hc,e⟩;exact ⟨c,hc,strL_inj e⟩
 go_enter Tryz.func146,Tryz.ntmps146
 go_wp2_with fail
 refine (keysC_calls mb w).mono ?_
 rintro e w1 ⟨rfl,rfl⟩
 go_wp2_with fail
 have B:=Blk.new w [.map (some mb)] 115
 refine (sortedC_calls w.heap.size mb 16 _ (B.cell 0) B.lt (by rw [mapAt_alloc _ hlt];exact hm) hi (by omega) (by decide) _ hsort hmem).mono ?_
 rintro e w2 ⟨v,rfl,hv,hf,hn⟩
 go_wp2
 go_ret
 exact ⟨v,rfl,hv,((Fr.refl _ _).alloc _).trans0 hf,fun k hk=>Nat.le_trans (by simp) (hn k hk)⟩
end
theorem infoTxK:(Tryz.prog.info? 9).map (fun i=>(i.zero,i.size,i.bytes))=some (some (.string ⟨#[]⟩),1,16):=by kernel_rfl
def rowT (w0:World) (l:List By) (e:Ending) (w':World):Prop:=∃v,e=.returned v∧w'.ownsRow w0.heap.size 9 1 v l.length (l.flatMap strC)∧Fr [] w0 w'
def slLen:Value→Nat
 | .slice _ n _=>n
 | _=>0
section
variable {ex:By→Prop} {w w':World} {cb mb bits room:Nat} {L:List Cd}
theorem IsPath.nonil {D:List Dk}:∀{s:By} {p:List By},IsPath D s p→∀t∈p,t≠[]
 | _,[],_,t,ht=>by cases ht
 | _,b :: r,⟨⟨_,_,_,hb⟩,h⟩,t,ht=>by
   rcases List.mem_cons.1 ht with rfl | ht
   ·exact hb
   ·exact IsPath.nonil h t ht
theorem chBelow_calls (s:By) (p:List By) (h:ChG ex w cb mb bits room L) (hp:IsPath (L.map (·.x)) s p) (hn:∀c∈L,c.nm.length≤maxLen) (hp8:p.length≤64):Calls Tryz.prog 72 #[.pointer (some ⟨cb,0,none⟩),strL s] w (rowT w p):=by
 have c0:=h.blk.cell
 have he:Value.string ⟨#[]⟩=strL []:=rfl
 have hlen:∀t c,fK L t=some c→t.length≤maxLen:=fun t c hc=>by
  obtain ⟨h1,h2⟩:=nlFind_mem hc
  rw [←h2]
  exact hn c h1
 obtain ⟨d0,hd0,_⟩:=hp.find
 obtain ⟨c1,hc1,_⟩:=fK_of hd0
 have hl:=h.look (hlen _ _ hc1)
 have hl0:=hl w (Fr.refl _ _)
 rw [hc1] at hl0
 unfold kpt Cd.ptr at hl0
 have hcm:=c0 2
 clear hl
 go_enter Tryz.func72,Tryz.ntmps72
 rw [he]
 go_wp2_with fail
 go_step3
 go_wp2_with fail
 go_step3
 go_wp2_with fail
 go_loopw [5,6] (fun v d wr=>∃(q r:List By) (t:By) (c:Cd),p=q++r∧IsPath (L.map (·.x)) t r∧fK L t=some c∧d=.pointer (some ⟨c.db,0,none⟩)∧wr.ownsRow w.heap.size 9 1 v q.length (q.flatMap strC)∧Fr [] w wr) (fun v _ _=>p.length - slLen v)
 case atStart=>exact ⟨[],p,s,c1,rfl,hp,hc1,rfl,World.ownsRow_nil _ _ _ _,Fr.refl _ _⟩
 case round =>
  obtain ⟨q,r,t,c,rfl,hpr,hct,rfl,ho,hF⟩:=hrel
  have hcm':=(nlFind_mem hct).1
  have c1:=(((h.dks c hcm').fr0 hF)).cell 1
  obtain ⟨av,cv,rfl,_⟩:=Sl.of_owns ho
  cases r with
  | nil =>
    obtain ⟨d1,hd1,hb1⟩:=hpr
    obtain ⟨c',hc',rfl⟩:=fK_of hd1
    rw [hct] at hc'
    cases hc'
    rw [hb1] at c1
    clear hl0 hcm c0 hd0 hc1
    go_wp2
    go_ret
    refine ⟨_,rfl,?_,hF⟩
    rw [List.append_nil]
    exact ho
  | cons b r =>
    obtain ⟨⟨d1,hd1,hb1,hb0⟩,hpr⟩:=hpr
    obtain ⟨c',hc',rfl⟩:=fK_of hd1
    rw [hct] at hc'
    cases hc'
    rw [hb1] at c1
    obtain ⟨d2,hd2,_⟩:=hpr.find
    obtain ⟨c2,hc2,_⟩:=fK_of hd2
    have hlk:=h.look (hlen _ _ hc2)
    rw [hc2] at hlk
    unfold kpt Cd.ptr at hlk
    have hb':decide (b=[])=false:=decide_eq_false hb0
    have hz:=hF.size
    obtain ⟨S,hS⟩:∃S,Hid (Value.string S=strL b):=⟨_,hidIt rfl⟩
    rw [←hS.out] at c1 hlk
    have hq:binOp .eql 9 (.string S) (strL [])=pure (.bool false):=by rw [hS.out,eql_str,hb']
    have hg:∀(op:BinOp) (x y:Operand) (w:World),(eqGuard op 9 x y (.string S) (strL [])).run Tryz.prog w=.ok () w:=fun op x y w=>by rw [hS.out];exact guard_str _ _ _ _ _ _
    have hone:∀u∈[Value.string S],u.oneCell'=true:=fun u hu=>by rw [List.mem_singleton.1 hu];rfl
    have hql:q.length+(r.length+1)≤64:=by simpa using hp8
    have hlk':=hidIt hlk
    have hdk:=fun X (hX:Fr [] w X)=>((h.dks c hcm').fr0 hX).cell 1
    have hck:=fun X (hX:Fr [] w X)=>(h.blk.fr0 hX).cell 2
    rw [hb1,←hS.out] at hdk
    clear hl0 hcm c0 hd0 hc1 hd1 hd2 hp hlk
    go_wp2_with (at_builtin;refine Hid.out ?_)
    refine hidIt ?_
    refine wpList_append1 27 9 _ 1 16 Tryz.underlying27 infoTxK rfl (by decide) (by decide) rfl _ _ rfl w.heap.size _ _ _ rfl (ho.alloc _) [.string S] rfl hone wr.heap.size rfl (Blk.new' rfl [.string S] _) (by omega) (by simp;omega) ?_
    intro v' w2 hown2 hgrow hloc
    have hF2:Fr [] w w2:=(hF.alloc _).grown hgrow (fun y hy=>.inr (own_base ho y hy))
    have hfl:(q++[b]).flatMap strC=q.flatMap strC++[Value.string S]:=by rw [List.flatMap_append,hS.out];rfl
    rw [←hfl] at hown2
    obtain ⟨a2,q2,rfl,_⟩:=Sl.of_owns hown2
    have hdr:=(Fr.refl [] w2).drew
    have hFd:=hF2.trans0 hdr
    clear hq hg hone hgrow hloc ho c1
    go_wp2_with fail
    refine wp_region_G (fun X=>Fr [] w2.drew X) [(true,0),(true,1),(true,2),(true,3),(true,4),(true,5),(true,6),(true,7),(true,8),(true,9)] (by as_aux_lemma=>kernel_rfl) (by as_aux_lemma=>kernel_rfl) (Fr.refl _ _) ?_
    simp only [inOrder,jD,jE,jF,jG]
    iterate 3 (refine wpG_pure fun K hK=>?_;go_simp;refine hK _ ?_;clear hK K)
    refine wpG_val (.map (some mb)) (by first | rfl | go_simp) (fun X hX=>by have cc:=hck X (hFd.trans0 hX);go_simp) ?_
    simp only [Act.put,jA,jB,jC]
    iterate 3 (refine wpG_pure fun K hK=>?_;go_simp;refine hK _ ?_;clear hK K)
    refine wpG_val (.string S) (by first | rfl | go_simp) (fun X hX=>by have cc:=hdk X (hFd.trans0 hX);go_simp) ?_
    simp only [Act.put,jA,jB,jC]
    refine wpG_val (.pointer (some ⟨c2.db,0,none⟩)) (by first | rfl | go_simp) (fun X hX=>by have cc:=hlk'.out X (hFd.trans0 hX);go_simp) ?_
    simp only [Act.put,jA,jB,jC]
    iterate 1 (refine wpG_pure fun K hK=>?_;go_simp;refine hK _ ?_;clear hK K)
    refine wpG_end ?_
    clear hlk' hdk hck
    go_wp2
    go_roundw
    case rel=>exact ⟨q++[b],r,b,c2,by simp,hpr,hc2,rfl,by rw [List.length_append];exact owns_drew hown2,hFd⟩
    case measure=>simp [slLen];omega
def usersL (L:List Cd) (s:By):List By:=(L.filter fun c=>decide (s≠[]) && decide (c.x.bk=s)).map Cd.nm
theorem usersL_take {s:By} {k:Nat} (hk:k<L.length):usersL (L.take (k+1)) s=usersL (L.take k) s++(if s≠[]∧L[k].x.bk=s then [L[k].nm] else []):=by
 unfold usersL
 rw [List.take_succ_eq_append_getElem hk,List.filter_append,List.map_append]
 congr 1
 simp only [List.filter_cons,List.filter_nil]
 by_cases e:s≠[]∧L[k].x.bk=s
 ·rw [if_pos e,if_pos (by simp [e.1,e.2])];rfl
 ·rw [if_neg e,if_neg (by simpa [Classical.not_and_iff_not_or_not] using e)];rfl
theorem usersL_len (L:List Cd) (s:By):(usersL L s).length≤L.length:=by unfold usersL;rw [List.length_map];exact List.length_filter_le _ _
theorem chUsers_calls (s:By) (h:ChG ex w cb mb bits room L) (hn:∀c∈L,c.nm.length≤maxLen) (hf16:L.length≤16):Calls Tryz.prog 91 #[.pointer (some ⟨cb,0,none⟩),strL s] w fun e w'=>∃v,e=.returned v∧SlT w' v (usersL L s)∧Fr [] w w':=by
 have he:Value.string ⟨#[]⟩=strL []:=rfl
 go_enter Tryz.func91,Tryz.ntmps91
 rw [he]
 go_wp2_with fail
 refine (chNames_calls h hf16).mono ?_
 rintro e w1 ⟨v,rfl,hv,hf1,_⟩
 have h1:=h.fr0 hf1
 obtain ⟨a,cap,rfl,hvl,_⟩:=SlF.open hv
 rw [List.length_map] at hv hvl ⊢
 have hck:=fun X (hX:Fr [] w1 X)=>(h1.blk.fr0 hX).cell 2
 have hdk:=fun X (hX:Fr [] w1 X) (c:Cd) (hc:c∈L)=>((h1.dks c hc).fr0 hX).cell 1
 have hlk:=fun X (hX:Fr [] w1 X) (c:Cd) (hc:c∈L)=>h1.look (hn c hc) X hX
 go_wp2_with fail
 go_loopw [5,7,11] (fun v _ i wr=>∃k:Nat,k≤L.length∧i=.int .i64 (k:Int)∧wr.ownsRow w1.heap.size 9 1 v (usersL (L.take k) s).length ((usersL (L.take k) s).flatMap strC)∧Fr [] w1 wr) (fun _ _ i _=>L.length - (intOf i).toNat)
 case atStart=>exact ⟨0,Nat.zero_le _,rfl,World.ownsRow_nil _ _ _ _,Fr.refl _ _⟩
 case round =>
  obtain ⟨k,hk,rfl,ho,hF⟩:=hrel
  by_cases hlt:k<L.length
  case neg =>
   have hke:k=L.length:=by omega
   subst hke
   rw [List.take_length] at ho
   obtain ⟨av,cv,rfl,_⟩:=Sl.of_owns ho
   clear hck hdk hlk
   go_wp2
   go_ret
   exact ⟨_,rfl,SlF.of_owns ho,hf1.trans0 hF⟩
  obtain ⟨bn,on,rfl,hbn,dn⟩:=SlT.at (SlF.fr0 hv hF) (i:=k) (by rw [List.length_map];exact hlt)
  have hmem:L[k]∈L:=List.getElem_mem hlt
  have hnk:(L.map Cd.nm).getD k []=L[k].nm:=by rw [List.getD_eq_getElem?_getD,List.getElem?_map,List.getElem?_eq_getElem hlt];rfl
  rw [hnk] at dn
  have hfk:fK L L[k].nm=some L[k]:=nlFind_rising h.rising hmem
  have hl:=hlk wr hF _ hmem
  rw [hfk] at hl
  unfold kpt Cd.ptr at hl
  have hd:=hdk wr hF _ hmem
  have hc:=hck wr hF
  have hx:=hidIt (usersL_take (s:=s) hlt)
  have hul:=hidIt (usersL_len (L.take k) s)
  generalize L[k]=c at *
  obtain ⟨S,hS⟩:∃S,Hid (Value.string S=strL c.nm):=⟨_,hidIt rfl⟩
  rw [←hS.out] at dn hl
  obtain ⟨av,cv,rfl,_⟩:=Sl.of_owns ho
  clear hck hdk hlk hnk hfk
  by_cases h0:s=[]
  case pos =>
   have hx':Hid (usersL (L.take (k+1)) s=usersL (L.take k) s):=hidIt (by rw [hx.out,if_neg (fun h=>h.1 h0),List.append_nil])
   have hs0:decide (s=[])=true:=decide_eq_true h0
   clear hx hl hd hc
   go_wp2
   go_roundw
   case rel=>exact ⟨k+1,by omega,by go_num,by rw [hx'.out];exact ho,hF⟩
   case measure=>simp [intOf];omega
  have hs0:decide (s=[])=false:=decide_eq_false h0
  by_cases hb:c.x.bk=s
  case neg =>
   have hx':Hid (usersL (L.take (k+1)) s=usersL (L.take k) s):=hidIt (by rw [hx.out,if_neg (fun h=>hb h.2),List.append_nil])
   have hb':decide (c.x.bk=s)=false:=decide_eq_false hb
   clear hx
   generalize c.x.bk=bk at *
   go_wp2
   go_roundw
   case rel=>exact ⟨k+1,by omega,by go_num,by rw [hx'.out];exact ho,hF⟩
   case measure=>simp [intOf];omega
  have hx':Hid ((usersL (L.take (k+1)) s)=usersL (L.take k) s++[c.nm]):=hidIt (by rw [hx.out,if_pos ⟨h0,hb⟩])
  rw [hb] at hd
  have hz:=hF.size
  have hone:∀u∈[Value.string S],u.oneCell'=true:=fun u hu=>by rw [List.mem_singleton.1 hu];rfl
  have hN:(usersL (L.take k) s).length≤16:=by have:=hul.out;rw [List.length_take] at this;omega
  generalize usersL (L.take k) s=U at *
  clear hx
  go_wp2_with (at_builtin;refine Hid.out ?_)
  refine hidIt ?_
  refine wpList_append1 27 9 _ 1 16 Tryz.underlying27 infoTxK rfl (by decide) (by decide) rfl _ _ rfl w1.heap.size _ _ _ rfl (ho.alloc _) [.string S] rfl hone wr.heap.size rfl (Blk.new' rfl [.string S] _) (by omega) (by simp;omega) ?_
  intro v' w2 hown2 hgrow hloc
  have hF2:Fr [] w1 w2:=(hF.alloc _).grown hgrow (fun y hy=>.inr (own_base ho y hy))
  have hfl:(U++[c.nm]).flatMap strC=U.flatMap strC++[Value.string S]:=by rw [List.flatMap_append,hS.out];rfl
  rw [←hfl] at hown2
  obtain ⟨a2,q2,rfl,_⟩:=Sl.of_owns hown2
  clear hl hd hc dn hone hgrow hloc ho
  go_wp2
  go_roundw
  case rel=>exact ⟨k+1,by omega,by go_num,by rw [hx'.out,List.length_append];exact hown2,hF2⟩
  case measure=>simp [intOf];omega
end
end Go.Proofs.YtffnihooekbcnaaGreat
namespace Go.Proofs.YtffnihooekbcnaaGreat
open Go.RowKit Go.Maps
theorem all_take {s:List UInt8} {k:Nat} (h:(s.take k).all okSign=true) (hk:k<s.length) (hx:okSign (s.getD k 0)=true):(s.take (k+1)).all okSign=true:=by
 rw [List.take_add_one,List.all_append,h]
 rw [List.getD_eq_getElem?_getD,List.getElem?_eq_getElem hk] at hx
 rw [List.getElem?_eq_getElem hk]
 simpa using hx
theorem all_not {s:List UInt8} {k:Nat} (hk:k<s.length) (hx:okSign (s.getD k 0)=false):okName s=false:=by
 have hm:s.getD k 0∈s:=by
  rw [List.getD_eq_getElem?_getD,List.getElem?_eq_getElem hk]
  exact List.getElem_mem hk
 unfold okName
 cases ha:s.all okSign with
 | false=>rfl
 | true =>
   have:=List.all_eq_true.1 ha _ hm
   rw [hx] at this
   cases this
theorem iter_fr (w:World) (S:ByteArray) (p:Nat):Fr [] w (w.iter S p):=(Fr.refl _ _).alloc _
theorem nRight_calls (s:List UInt8) (w:World):Calls Tryz.prog 51 #[strL s] w fun e w'=>e=.returned (.bool (okName s))∧Fr [] w w':=by
 obtain ⟨S,hS⟩:∃S:ByteArray,S=⟨s.toArray⟩:=⟨_,rfl⟩
 have hsz:S.size=s.length:=by rw [hS];simp [ByteArray.size]
 have hat:∀k (h:k<S.size),(S[k]'h).toNat=(s.getD k 0).toNat:=by
  subst hS
  intro k h
  rw [List.getD_eq_getElem?_getD,List.getElem?_eq_getElem (by rw [←hsz];exact h)]
  simp [ByteArray.getElem_eq_getElem_data]
 have hv:strL s=.string S:=by rw [hS];rfl
 have hlen:=len_str s
 rw [hv] at hlen ⊢
 clear hS hv
 go_enter Tryz.func51,Tryz.ntmps51
 go_wp2_with fail
 go_loopw [] (fun wr=>∃pos:Nat,pos≤s.length∧wr=w.iter S pos∧(s.take pos).all okSign=true) (fun wr=>s.length - wr.iterPos w.heap.size)
 case atStart=>exact ⟨0,by omega,rfl,by simp⟩
 case round =>
  obtain ⟨pos,hpos,rfl,hall⟩:=hrel
  have hfr:=iter_fr w S pos
  by_cases hp:pos<s.length
  ·have hp':pos<S.size:=by omega
   have hb:=hat pos hp'
   by_cases hasc:(s.getD pos 0).toNat<128
   ·have hnx:=fun ty=>run_next_ascii (P:=Tryz.prog) w S pos ty hp' (by rw [hb];exact hasc)
    rw [hb] at hnx
    obtain ⟨v,hv⟩:∃v,(s.getD pos 0).toNat=v:=⟨_,rfl⟩
    rw [hv] at hnx hasc
    have hk:okSign (s.getD pos 0)=((decide (97≤v) && decide (v≤122)) || (decide (48≤v) && decide (v≤57)) || decide (v=46) || decide (v=45)):=by unfold okSign;rw [hv]
    have hok:=hidIt hk
    clear hk
    have hfr':=iter_fr w S (pos+1)
    clear hb hv
    go_wp2
    all_goals first
     | (go_ret
        refine ⟨ret_bool (all_not hp ?_).symm,hfr'⟩
        rw [hok.out]
        try simp only [bne_iff_ne,ne_eq] at *
        simp
        omega)
     | (go_roundw
        case rel =>
         refine ⟨pos+1,by omega,rfl,all_take hall hp ?_⟩
         rw [hok.out]
         try simp only [bne_eq_false_iff_eq] at *
         simp
         omega
        case measure=>simp;omega)
   ·have hnx:=fun ty=>run_next_any (P:=Tryz.prog) w S pos ty hp'
    have hhi:=decode_high S pos hp' (by rw [hb];omega)
    have hR:=decode_le S pos
    obtain ⟨R,hR'⟩:∃R,(Utf8.decode S pos).1=R:=⟨_,rfl⟩
    obtain ⟨K,hK'⟩:∃K,(Utf8.decode S pos).2=K:=⟨_,rfl⟩
    rw [hR',hK'] at hnx
    rw [hR'] at hhi hR
    have hfr':=iter_fr w S (pos+K)
    have hno:okName s=false:=all_not hp (by
     have:¬(s.getD pos 0).toNat<128:=hasc
     generalize s.getD pos 0=x at this
     unfold okSign
     simp
     omega)
    have hNo:=hidIt hno
    clear hno
    clear hb hK' hR'
    have r1:¬(R:Int)<97:=by omega
    have r2:(122:Int)<R:=by omega
    have r3:¬(R:Int)<48:=by omega
    have r4:(57:Int)<R:=by omega
    have r5:((R:Int) != 46)=true:=by rw [bne_iff_ne];omega
    have r6:((R:Int) != 45)=true:=by rw [bne_iff_ne];omega
    go_wp2
    go_ret
    exact ⟨ret_bool hNo.out.symm,hfr'⟩
  ·have hnx:=fun ty=>run_next_end (P:=Tryz.prog) w S pos ty (by omega)
   have hall':okName s=(decide (1≤s.length) && decide (s.length≤15)):=by
    rw [List.take_of_length_le (by omega)] at hall
    unfold okName
    rw [hall,Bool.true_and]
   have hAll:=hidIt hall'
   clear hall'
   go_wp2
   all_goals go_ret
   all_goals refine ⟨ret_bool ?_,hfr⟩
   all_goals rw [hAll.out,Bool.eq_iff_iff]
   all_goals simp
   all_goals omega
end Go.Proofs.YtffnihooekbcnaaGreat
