/-
  Package sim: write.
-/
import Derived.Test.YtffnihooekbcnaaGreatG32
import Derived.Test.YtffnihooekbcnaaGreatG27
set_option maxRecDepth 100000
set_option maxHeartbeats 6400000
namespace Go.Proofs.YtffnihooekbcnaaGreat
open Go.RowKit Go.Maps
attribute [local go_sem] mapAt_alloc mapAt_setCell mapAt_drew mapAt_drewN cells_str store_str eql_str neq_str guard_str len_str
section
variable {w w':World} {S:SimS} {p:List By}
def WrJ (S:SimS) (p:List By) (r:Int) (a:Int) (g:Nat) (A S':SimS):Prop :=
 match S.j with
 | .merge jb mp bs l _=>S'={ A with j:=.merge jb mp bs (mgL l r a g S.n) false }
 | .push jb lm gm _ l G _=>∃o' G',unG G'=(befS S p a g l (unG G)).2∧S'={ A with j:=.push jb lm gm o' (befS S p a g l (unG G)).1 G' false,sc:=sinS S.sc r a g S.n }
 | _=>S'=A
def JobS.live:JobS→Prop
 | .none=>True
 | .merge _ _ _ _ ov=>ov=false
 | .pull _ ov=>ov=false
 | .push _ _ _ _ _ _ ov=>ov=false
theorem sChange_calls (h:SimW w S) (hO:OkW S p) (hl:S.j.live) (c:Cd) (hc:fK S.L S.s=some c) (b1 b2:Nat) (kd a g':Int) (g:Nat) (vb:Value) (b nm ot:By) (kv:Value) (h1:Blk w b1 [.pointer (some ⟨S.wb,0,none⟩)] 25) (h2:Blk w b2 (stepC kd a g' vb nm ot kv) 34)
 (hvb:SlY w vb b) (hvo:0<b.length→∀k,vb.ownBlock=some k→¬allF (simF S) k) (n1:¬allF (simF S) b1) (n2:¬allF (simF S) b2) (hg:g≤4611686018427387904) :
 Calls Tryz.prog 38 #[.pointer (some ⟨S.wb,0,none⟩),.int .i64 a,.int .i64 (g:Int),.func (.func 39) #[] #[.pointer (some ⟨b1,0,none⟩),.pointer (some ⟨b2,0,none⟩)]] w (chgPost w S (wrRes S p c a b) a (g:Int) (WrJ S p (wrRes S p c a b).1 a g)):=by
 unfold WrJ
 cases hj:S.j with
 | none=>exact sChange_quiet h hO c hc b1 b2 kd a g' g vb b nm ot kv h1 h2 hvb hvo n1 n2 hg (by rw [hj];rfl) (by rw [hj];rfl)
 | merge jb mp bs l ov =>
   rw [hj] at hl
   obtain rfl:ov=false:=hl
   exact sChange_merge h hO c hc b1 b2 kd a g' g vb b nm ot kv h1 h2 hvb hvo n1 n2 hg jb mp bs l hj
 | pull jb ov=>exact sChange_quiet h hO c hc b1 b2 kd a g' g vb b nm ot kv h1 h2 hvb hvo n1 n2 hg (by rw [hj];rfl) (by rw [hj];rfl)
 | push jb lm gm o l G ov =>
   rw [hj] at hl
   obtain rfl:ov=false:=hl
   exact sChange_push h hO c hc b1 b2 kd a g' g vb b nm ot kv h1 h2 hvb hvo n1 n2 hg jb lm gm o l G hj
theorem sWrite_calls (h:SimW w S) (hO:OkW S p) (hl:S.j.live) (c:Cd) (hc:fK S.L S.s=some c) (kd a g':Int) (vb:Value) (b nm ot:By) (ka:Option Addr) (kn kc:Nat) (hvb:SlY w vb b) (hvo:0<b.length→∀k,vb.ownBlock=some k→¬allF (simF S) k) :
 Calls Tryz.prog 17 #[.pointer (some ⟨S.wb,0,none⟩),.agg (stepC kd a g' vb nm ot (.slice ka kn kc)).toArray] w (chgPost w S (wrRes S p c a b) a ((b.length / 16:Nat):Int) (WrJ S p (wrRes S p c a b).1 a (b.length / 16))):=by
 have hF:=((Fr.refl [] w).alloc (.cells #[.pointer (some ⟨S.wb,0,none⟩)] 25)).alloc (.cells (stepC kd a g' vb nm ot (.slice ka kn kc)).toArray 34)
 have B1:=(Blk.new w [.pointer (some ⟨S.wb,0,none⟩)] 25).alloc (.cells (stepC kd a g' vb nm ot (.slice ka kn kc)).toArray 34)
 have B2:=Blk.new' (w:=w.alloc (.cells #[.pointer (some ⟨S.wb,0,none⟩)] 25)) (n:=w.heap.size+1) (by simp) (stepC kd a g' vb nm ot (.slice ka kn kc)) 34
 obtain ⟨ba,bc,rfl,hbc,hbm,_⟩:=SlF.open hvb
 have hlen:((b.length / 16:Nat):Int)=(b.length:Int) / 16:=by omega
 have hbl:(b.length:Nat)≤maxLen:=by omega
 have kC:=sChange_calls (h.fr0 hF) hO hl c hc w.heap.size (w.heap.size+1) kd a g' (b.length / 16) _ b nm ot _ B1 B2 (SlF.fr0 hvb hF) hvo (h.free (Nat.le_refl _)) (h.free (by omega)) (by unfold maxLen at hbl;omega)
 rw [hlen] at kC ⊢
 generalize wrRes S p c a b=r at kC ⊢
 unfold chgPost at kC ⊢
 generalize hbl2:b.length=bl at kC hvb hvo hbl ⊢
 have hw:wrap64 ((bl:Int) / 16)=(bl:Int) / 16:=IntWalk.wrap64_in _ (by unfold maxLen at hbl;omega)
 clear hvb hvo hO hc B1 B2 hl hbc hbm hlen hbl2
 have hfr:=fun S' w2 (h2:StepO ((w.alloc (.cells #[.pointer (some ⟨S.wb,0,none⟩)] 25)).alloc (.cells (stepC kd a g' (.slice ba bl bc) nm ot (.slice ka kn kc)).toArray 34)) (allF (simF S)) w2 (allF (simF S')))=>(StepO.fr0 (o:=allF (simF S)) (((Fr.refl [] w).alloc (.cells #[.pointer (some ⟨S.wb,0,none⟩)] 25)).alloc (.cells (stepC kd a g' (.slice ba bl bc) nm ot (.slice ka kn kc)).toArray 34))).trans h2
 go_enter Tryz.func17,Tryz.ntmps17
 go_wp2_with fail
 rw [hw]
 refine kC.mono ?_
 rintro e w2 ⟨rfl,p',S',hJ,hS,hst⟩
 have hfin:=hidIt (show ∃p' S',WrJ S p r.1 a (bl / 16) (aftW S p' r a ((bl:Int) / 16)) S'∧SimW w2 S'∧StepO w (allF (simF S)) w2 (allF (simF S')) from ⟨p',S',hJ,hS,hfr _ _ hst⟩)
 clear kC hJ hS hst hfr
 go_wp2
 go_ret
 exact ⟨rfl,hfin.out⟩
end
theorem met_mStep (x : Value) (w : World) : (Go.method 451 56 x "Step").run Tryz.prog w = .ok (284, x) w := by kernel_rfl
theorem cal_mStep (a:Array Value) (w:World):(callFunc 284 a).run Tryz.prog w=.ok (.enter 284 a) w:=by kernel_rfl
theorem met_mOver (x : Value) (w : World) : (Go.method 451 56 x "Over").run Tryz.prog w = .ok (283, x) w := by kernel_rfl
theorem cal_mOver (a:Array Value) (w:World):(callFunc 283 a).run Tryz.prog w=.ok (.enter 283 a) w:=by kernel_rfl
theorem met_pStep (x : Value) (w : World) : (Go.method 451 89 x "Step").run Tryz.prog w = .ok (295, x) w := by kernel_rfl
theorem cal_pStep (a:Array Value) (w:World):(callFunc 295 a).run Tryz.prog w=.ok (.enter 295 a) w:=by kernel_rfl
theorem met_pOver (x : Value) (w : World) : (Go.method 451 89 x "Over").run Tryz.prog w = .ok (294, x) w := by kernel_rfl
theorem cal_pOver (a:Array Value) (w:World):(callFunc 294 a).run Tryz.prog w=.ok (.enter 294 a) w:=by kernel_rfl
theorem met_phStep (x : Value) (w : World) : (Go.method 451 57 x "Step").run Tryz.prog w = .ok (291, x) w := by kernel_rfl
theorem met_phOver (x : Value) (w : World) : (Go.method 451 57 x "Over").run Tryz.prog w = .ok (290, x) w := by kernel_rfl
section
variable {w w':World} {S:SimS} {p:List By}
def stepRes (T:TypeId) (pv:Value) (F2:Nat) (S:SimS) (R:Int→Bool→SimS→Prop) (X:World) (e:Ending) (w':World):Prop :=
 ∃bo i ov S1,e=.returned (.tuple #[.bool bo,.int .i64 i])∧R i ov S1∧SimW w' S1∧S1.wb=S.wb∧S1.j.face=.iface T pv∧S1.j.pp=.pointer none∧StepO X (allF (simF S)) w' (allF (simF S1))∧Calls Tryz.prog F2 #[pv] w' fun e w''=>e=.returned (.bool ov)∧w'=w''
def goneS (ov:Bool) (S:SimS):SimS:=if ov=true then { S with j:=.none } else S
def stepPost (S:SimS) (R:Int→Bool→SimS→Prop) (w:World) (e:Ending) (w':World):Prop :=
 ∃i ov S1,e=.returned (.int .i64 i)∧R i ov S1∧SimW w' (goneS ov S1)∧StepO w (allF (simF S)) w' (allF (simF (goneS ov S1)))
theorem sgone_step {S1:SimS} {w0 w1 w2:World} {o:Nat→Prop} (_h1:SimW w1 S1) (hst:StepO w0 o w1 (allF (simF S1))) (hf:Fr [S1.wb] w1 w2):StepO w0 o w2 (allF (simF { S1 with j:=.none })):=by
 refine hst.trans ⟨⟨_,hf,fun k hk _=>⟨0,List.mem_singleton.1 hk⟩⟩,fun k hk=>.inl ?_⟩
 obtain ⟨i,hi⟩:=hk
 match i,hi with
 | 0,hi=>exact ⟨0,hi⟩
 | 1,hi=>exact ⟨1,hi⟩
 | 2,hi=>exact ⟨2,hi⟩
 | 3,hi=>exact ⟨3,hi⟩
 | 4,hi=>exact ⟨4,hi⟩
 | 5,hi=>exact hi.elim
 | 6,hi=>exact ⟨6,hi⟩
 | _+7,hi=>exact hi.elim
theorem sStep_gen {T:TypeId} {pv:Value} (F1 F2:Nat) {R:Int→Bool→SimS→Prop} (h:SimW w S) (hface:S.j.face=.iface T pv) (hpp:S.j.pp=.pointer none)
 (hI1 : ∀ W, (Go.method 451 T pv "Step").run Tryz.prog W = .ok (F1, pv) W) (hI2 : ∀ W, (Go.method 451 T pv "Over").run Tryz.prog W = .ok (F2, pv) W) (hE1 : ∀ a W, (callFunc F1 a).run Tryz.prog W = .ok (.enter F1 a) W) (hE2 : ∀ a W, (callFunc F2 a).run Tryz.prog W = .ok (.enter F2 a) W)
 (k1:∀X,Fr [] w X→Calls Tryz.prog F1 #[pv] X (stepRes T pv F2 S R X)) (kd a g':Int) (va:Option Addr) (vn vc:Nat) (nm ot:By) (ka:Option Addr) (kn kc:Nat) :
 Calls Tryz.prog 25 #[.pointer (some ⟨S.wb,0,none⟩),.agg (stepC kd a g' (.slice va vn vc) nm ot (.slice ka kn kc)).toArray] w (stepPost S R w):=by
 obtain ⟨w1,hw1⟩:∃w1,Hid (w.alloc (.cells (stepC kd a g' (.slice va vn vc) nm ot (.slice ka kn kc)).toArray 34)=w1):=⟨_,hidIt rfl⟩
 have hF1:Fr [] w w1:=by rw [←hw1.out];exact (Fr.refl [] w).alloc _
 have h1:=h.fr0 hF1
 have c0:=h1.cell
 rw [←hw1.out] at c0
 unfold simC at c0
 rw [hface] at c0
 have kS:=k1 _ hF1
 unfold stepRes at kS
 go_enter Tryz.func25,Tryz.ntmps25
 go_wp2_with fail
 rw [hw1.out]
 clear c0 hw1
 refine kS.mono ?_
 rintro e w2 ⟨bo,i,ov,S1,rfl,hR,h2,hwb,hf1,hp1,hst2,kO⟩
 have c2:=h2.blk.cell
 rw [hwb] at c2
 unfold simC at c2
 rw [hf1,hp1] at c2
 have kG:=sGone_calls h2
 rw [hwb] at kG
 have hst:=(StepO.fr0 (o:=allF (simF S)) hF1).trans hst2
 have hfin0:=hidIt (fun (_:ov=false)=>show ∃i' ov S1,Ending.returned (.int .i64 i)=.returned (.int .i64 i')∧R i' ov S1∧SimW w2 (goneS ov S1)∧StepO w (allF (simF S)) w2 (allF (simF (goneS ov S1))) from ⟨i,ov,S1,rfl,hR,by subst ov;exact h2,by subst ov;exact hst⟩)
 have hfin1:=hidIt (fun (_:ov=true) w3 (g1:SimW w3 { S1 with j:=.none }) (g2:Fr [S1.wb] w2 w3)=>show ∃i' ov S1,Ending.returned (.int .i64 i)=.returned (.int .i64 i')∧R i' ov S1∧SimW w3 (goneS ov S1)∧StepO w (allF (simF S)) w3 (allF (simF (goneS ov S1))) from ⟨i,ov,S1,rfl,hR,by subst ov;exact g1,by subst ov;exact sgone_step h2 hst g2⟩)
 unfold stepPost
 rw [←hwb] at *
 clear kS hR h2 hst hst2 h h1 k1
 by_cases hi:i=0
 case pos =>
  subst hi
  go_wp2_with fail
  refine kO.mono ?_
  rintro e w3 ⟨rfl,rfl⟩
  clear kO
  cases ov with
  | false =>
    clear kG hfin1
    replace hfin0:=hidIt (hfin0.out rfl)
    go_wp2
    go_ret
    exact hfin0.out
  | true =>
    clear hfin0
    go_wp2_with fail
    refine kG.mono ?_
    rintro e w4 ⟨rfl,g1,g2⟩
    replace hfin1:=hidIt (hfin1.out trivial w4 g1 g2)
    clear kG g1 g2
    go_wp2
    go_ret
    exact hfin1.out
 case neg =>
  go_wp2_with fail
  refine kO.mono ?_
  rintro e w3 ⟨rfl,rfl⟩
  clear kO
  cases ov with
  | false =>
    clear kG hfin1
    replace hfin0:=hidIt (hfin0.out rfl)
    go_wp2
    go_ret
    exact hfin0.out
  | true =>
    clear hfin0
    go_wp2_with fail
    refine kG.mono ?_
    rintro e w4 ⟨rfl,g1,g2⟩
    replace hfin1:=hidIt (hfin1.out trivial w4 g1 g2)
    clear kG g1 g2
    go_wp2
    go_ret
    exact hfin1.out
end
end Go.Proofs.YtffnihooekbcnaaGreat
namespace Go.Proofs.YtffnihooekbcnaaGreat
open Go.RowKit Go.Maps
section
variable {w w':World} {S:SimS} {p:List By}
theorem SimW.chJob {L':List Cd} {j':JobS} (h:SimW w S) (hk:j'.kind=S.j.kind) (hf:j'.face=S.j.face) (hm:j'.mp=S.j.mp) (hq:j'.pp=S.j.pp) (hc:ChG noEx w' S.cb S.mb 1 60 L') (hJ:JobW w' S.cb S.n S.s j')
 (hst:StepO w (fun k=>chO S.cb S.mb S.L k∨S.j.o k) w' (fun k=>chO S.cb S.mb L' k∨j'.o k)) (hoff:∀k,j'.o k→¬chO S.cb S.mb L' k) :
 SimW w' { S with L:=L',j:=j' }∧StepO w (allF (simF S)) w' (allF (simF { S with L:=L',j:=j' })):=by
 refine h.new (C:=fun i=>i=1∨i=5) (S':={ S with L:=L',j:=j' }) ⟨?_,fun k hk=>?_⟩ (fun i hi=>?_) ?_ ?_ fun K=>?_
 ·obtain ⟨M,hfr,hM⟩:=hst.fr
  exact ⟨M,hfr,fun k hk hl=>(hM k hk hl).elim (fun h=>⟨1,.inl rfl,h⟩) fun h=>⟨5,.inr rfl,h⟩⟩
 ·obtain ⟨i,rfl | rfl,hi⟩:=hk
  ·exact (hst.new k (.inl hi)).imp (fun h=>h.elim (fun h=>⟨1,.inl rfl,h⟩) fun h=>⟨5,.inr rfl,h⟩) id
  ·exact (hst.new k (.inr hi)).imp (fun h=>h.elim (fun h=>⟨1,.inl rfl,h⟩) fun h=>⟨5,.inr rfl,h⟩) id
 ·match i,hi with
  | 0,_=>rfl
  | 1,hi=>exact absurd (.inl rfl) hi
  | 2,_=>rfl
  | 3,_=>rfl
  | 4,_=>rfl
  | 5,hi=>exact absurd (.inr rfl) hi
  | 6,_=>rfl
  | _+7,_=>rfl
 ·rintro i k (rfl | rfl) hk
  ·exact hc.lt (fun _ _ h=>h) hk
  ·exact job_low hJ hk
 ·rintro i j k (rfl | rfl) (rfl | rfl) hne h1 h2
  ·exact hne rfl
  ·exact hoff k h2 h1
  ·exact hoff k h1 h2
  ·exact hne rfl
 ·exact ⟨(by have:=K.blk (by simp);unfold simC at this ⊢;rw [hk,hf,hm,hq];exact this),hc,K.dir (by simp),K.fil (by simp),K.lst (by simp),hJ,K.sin (by simp)⟩
def puRes (S:SimS) (p:List By) (c:Cd) (k:Nat):Int × Img:=writeE c.x.M ((k*2:Nat):Int) (seenC (S.L.map (·.x)) 32 (S.s :: p) k) (belL (S.L.map (·.x)) S.n p)
def puStep (S:SimS) (p:List By) (c:Cd) (jb:Nat) (i:Int) (ov:Bool) (S1:SimS):Prop :=
 (∃k p',k<S.n∧i=(puRes S p c k).1∧ov=false∧S1={ S with L:=setK S.L S.s p' (puRes S p c k).2,j:=.pull jb false }) ∨
 (quietD (S.L.map (·.x)) S.n S.s p∧i=0∧ov=true∧S1={ S with L:=offK S.L S.s,j:=.pull jb true })
theorem sStep_pull (h:SimW w S) (hO:OkW S p) {jb:Nat} (hj:S.j=.pull jb false) (c:Cd) (hc:fK S.L S.s=some c) (kd a g':Int) (va:Option Addr) (vn vc:Nat) (nm ot:By) (ka:Option Addr) (kn kc:Nat) :
 Calls Tryz.prog 25 #[.pointer (some ⟨S.wb,0,none⟩),.agg (stepC kd a g' (.slice va vn vc) nm ot (.slice ka kn kc)).toArray] w (stepPost S (puStep S p c jb) w):=by
 refine sStep_gen 295 294 h (by rw [hj];rfl) (by rw [hj];rfl) (met_pStep _) (met_pOver _) cal_pStep cal_pOver (fun X hX=>?_) kd a g' va vn vc nm ot ka kn kc
 have h1:=h.fr0 hX
 have hJ:Blk X jb (pullC S.cb S.s false) 153:=by
  have:=h1.job
  rw [hj] at this
  exact this
 have hno:¬chO S.cb S.mb S.L jb:=fun hk=>h1.sep.off 1 5 jb (by decide) hk (by show S.j.o jb;rw [hj];rfl)
 have kS:=pStep_calls S.s p S.n jb c false h1.ch hO.ims hO.path hc hO.max hO.nnl hO.few hO.paths (by have:=hO.deep;omega) (by have:=hO.n;omega) hJ hno
 refine kS.mono ?_
 rintro e w2 (⟨h0,_⟩ | ⟨_,k,p',hk,rfl,hch,hB,hst,hoff⟩ | ⟨_,hq,rfl,hch,hB,hst,hoff⟩)
 ·cases h0
 ·have hJ2:JobW w2 S.cb S.n S.s (.pull jb false):=hB
  obtain ⟨g1,g2⟩:=h1.chJob (j':=.pull jb false) (by rw [hj]) (by rw [hj]) (by rw [hj]) (by rw [hj]) hch hJ2 (by rw [hj];exact hst) (fun q hq=>by rw [show q=jb from hq];exact hoff)
  exact ⟨false,_,false,_,rfl,.inl ⟨k,p',hk,rfl,rfl,rfl⟩,g1,rfl,rfl,rfl,g2,pOver_calls jb S.s false hB⟩
 ·have hJ2:JobW w2 S.cb S.n S.s (.pull jb true):=hB
  obtain ⟨g1,g2⟩:=h1.chJob (j':=.pull jb true) (by rw [hj];rfl) (by rw [hj];rfl) (by rw [hj];rfl) (by rw [hj];rfl) hch hJ2 (by rw [hj];exact hst) (fun q hq=>by rw [show q=jb from hq];exact hoff)
  exact ⟨true,_,true,_,rfl,.inr ⟨hq,rfl,rfl,rfl⟩,g1,rfl,rfl,rfl,g2,pOver_calls jb S.s true hB⟩
def mgR (S:SimS) (b:By) (r:List By) (cB:Cd) (k:Nat):Int × Img:=mgRes cB (S.L.map (·.x)) S.n S.s b r k
def mgStep (S:SimS) (b:By) (r:List By) (c cB:Cd) (jb mp:Nat) (l:List Bool) (i:Int) (ov:Bool) (S1:SimS):Prop :=
 (cnt l=0∧i=0∧ov=true∧∃p',S1={ S with L:=setK S.L S.s p' (discardE c.x.M 0 ((S.n:Int)*2)).2,j:=.merge jb mp b (List.replicate l.length false) true }) ∨
 (∃k∈onL l,kindD (S.L.map (·.x)) S.s k≠0∧i=(mgR S b r cB k).1∧ov=false∧∃p',S1={ S with L:=setK S.L b p' (mgR S b r cB k).2,j:=.merge jb mp b (if (mgR S b r cB k).1=0 then l.set k false else l) false }) ∨
 (∃k∈onL l,kindD (S.L.map (·.x)) S.s k=0∧i=0∧ov=false∧S1={ S with L:=S.L,j:=.merge jb mp b (l.set k false) false })
theorem sStep_merge {b:By} {r:List By} (h:SimW w S) (hO:OkW S (b :: r)) {jb mp:Nat} {l:List Bool} (hj:S.j=.merge jb mp b l false) (c cB:Cd) (hc:fK S.L S.s=some c) (hcB:fK S.L b=some cB) (kd a g':Int) (va:Option Addr) (vn vc:Nat) (nm ot:By) (ka:Option Addr) (kn kc:Nat) :
 Calls Tryz.prog 25 #[.pointer (some ⟨S.wb,0,none⟩),.agg (stepC kd a g' (.slice va vn vc) nm ot (.slice ka kn kc)).toArray] w (stepPost S (mgStep S b r c cB jb mp l) w):=by
 refine sStep_gen 284 283 h (by rw [hj];rfl) (by rw [hj];rfl) (met_mStep _) (met_mOver _) cal_mStep cal_mOver (fun X hX=>?_) kd a g' va vn vc nm ot ka kn kc
 have h1:=h.fr0 hX
 have hJ:MgW X jb S.cb mp S.s b l false∧jb≠mp∧l.length=S.n:=by
  have:=h1.job
  rw [hj] at this
  exact this
 have hno:∀k,(k=jb∨k=mp)→¬chO S.cb S.mb S.L k:=fun k hk hc=>h1.sep.off 1 5 k (by decide) hc (by show S.j.o k;rw [hj];exact hk)
 have kS:=mStep_calls r S.n c cB h1.ch hO.ims hO.path hO.path.2 hc hcB hO.max (by have:=hO.deep;simp at this;omega) (by have:=hO.n;omega) hJ.1 hJ.2.2 hJ.2.1 (hno _ (.inl rfl)) (hno _ (.inr rfl))
 refine kS.mono ?_
 have conv:∀{w2:World} {L':List Cd} {l':List Bool} {ov:Bool},StepO X (chM S.cb S.mb jb mp S.L) w2 (chM S.cb S.mb jb mp L')→StepO X (fun k=>chO S.cb S.mb S.L k∨S.j.o k) w2 (fun k=>chO S.cb S.mb L' k∨(JobS.merge jb mp b l' ov).o k):=by
  intro w2 L' l' ov hst
  rw [hj]
  refine ⟨?_,fun k hk=>?_⟩
  ·obtain ⟨M,hfr,hM⟩:=hst.fr
   refine ⟨M,hfr,fun k hk hl=>?_⟩
   rcases hM k hk hl with (h | h) | h
   ·exact .inl h
   ·exact .inr (.inl h)
   ·exact .inr (.inr h)
  ·have hk':chM S.cb S.mb jb mp L' k:=by
    rcases hk with h | h | h
    ·exact .inl (.inl h)
    ·exact .inl (.inr h)
    ·exact .inr h
   rcases hst.new k hk' with ((h | h) | h) | h
   ·exact .inl (.inl h)
   ·exact .inl (.inr (.inl h))
   ·exact .inl (.inr (.inr h))
   ·exact .inr h
 rintro e w2 (⟨h0,rfl,p',hch,hM,hst,hf1,hf2⟩ | ⟨k,hk,hkd,rfl,p',hch,hM,hst,hf1,hf2⟩ | ⟨k,hk,hkd,rfl,hch,hM,hst⟩)
 ·have hJ2:JobW w2 S.cb S.n S.s (.merge jb mp b (List.replicate l.length false) true):=⟨hM,hJ.2.1,by rw [List.length_replicate];exact hJ.2.2⟩
  obtain ⟨g1,g2⟩:=h1.chJob (j':=.merge jb mp b (List.replicate l.length false) true) (by rw [hj];rfl) (by rw [hj];rfl) (by rw [hj];rfl) (by rw [hj];rfl) hch hJ2 (conv hst) (fun q hq=>by rcases hq with rfl | rfl;exact hf1;exact hf2)
  exact ⟨true,_,true,_,rfl,.inl ⟨h0,rfl,rfl,p',rfl⟩,g1,rfl,rfl,rfl,g2,mOver_calls hM⟩
 ·have hJ2:JobW w2 S.cb S.n S.s (.merge jb mp b (if (mgR S b r cB k).1=0 then l.set k false else l) false):=⟨hM,hJ.2.1,by split;rw [List.length_set];exact hJ.2.2;exact hJ.2.2⟩
  obtain ⟨g1,g2⟩:=h1.chJob (j':=.merge jb mp b (if (mgR S b r cB k).1=0 then l.set k false else l) false) (by rw [hj];rfl) (by rw [hj];rfl) (by rw [hj];rfl) (by rw [hj];rfl) hch hJ2 (conv hst) (fun q hq=>by rcases hq with rfl | rfl;exact hf1;exact hf2)
  exact ⟨false,_,false,_,rfl,.inr (.inl ⟨k,hk,hkd,rfl,rfl,p',rfl⟩),g1,rfl,rfl,rfl,g2,mOver_calls hM⟩
 ·have hJ2:JobW w2 S.cb S.n S.s (.merge jb mp b (l.set k false) false):=⟨hM,hJ.2.1,by rw [List.length_set];exact hJ.2.2⟩
  obtain ⟨g1,g2⟩:=h1.chJob (L':=S.L) (j':=.merge jb mp b (l.set k false) false) (by rw [hj];rfl) (by rw [hj];rfl) (by rw [hj];rfl) (by rw [hj];rfl) hch hJ2 (conv hst) (fun q hq=>hno q hq)
  exact ⟨false,_,false,_,rfl,.inr (.inr ⟨k,hk,hkd,rfl,rfl,rfl⟩),g1,rfl,rfl,rfl,g2,mOver_calls hM⟩
end
section
variable {w w':World} {S:SimS}
theorem SimW.pushes {S':SimS} {X:World} (h:SimW w S) (hf:Fr [S.wb] w w') (hB:Blk w' S'.wb (simC S') 65) (hJ:JobW w' S'.cb S'.n S'.s S'.j) (hs:SinW w' S'.n S'.sc) (he:∀i,i≠5→i≠6→simF S' i=simF S i)
 (hw:SimK w' S (·=0)→ChG noEx w' S'.cb S'.mb 1 60 S'.L∧DirW w' S'.db S'.dm S'.E∧FilesW w' S'.fb S'.fm S'.F (S'.ys.map (·.1))∧LstW w' S'.lb S'.o S'.v S'.ys)
 (hn:∀k,S'.j.o k→X.heap.size≤k) (hsn:∀k,sinO S'.sc k→X.heap.size≤k) (hd:∀k,S'.j.o k→¬sinO S'.sc k) (hX:Fr [] X w) (h0:∀i k,simF S i k→k<X.heap.size) :
 SimW w' S'∧StepO X (allF (simF S)) w' (allF (simF S')):=by
 have K:=h.keep (C:=(·=0)) (g:=simF S) (ofC_one ⟨⟨_,hf,fun _ hk _=>List.mem_singleton.1 hk⟩,fun k hk=>.inl hk⟩:StepO w (ofC (·=0) (simF S)) w' (ofC (·=0) (simF S)))
 obtain ⟨k1,k2,k3,k4⟩:=hw K
 have hz:=hf.size
 have hnew:∀i k,(i=5∨i=6)→simF S' i k→X.heap.size≤k:=by
  rintro i k (rfl | rfl) hk
  ·exact hn k hk
  ·exact hsn k hk
 have hold:∀i k,¬(i=5∨i=6)→simF S' i k→simF S i k:=fun i k hi hk=>by
  rw [he i (fun e=>hi (.inl e)) (fun e=>hi (.inr e))] at hk
  exact hk
 refine ⟨⟨hB,k1,k2,k3,k4,hJ,hs,⟨fun i k hk=>?_,fun i j k hij hik hjk=>?_⟩⟩,⟨[S.wb],hX.weak.trans' hf,fun k hk _=>⟨0,List.mem_singleton.1 hk⟩⟩,?_⟩
 ·by_cases hi:i=5∨i=6
  ·rcases hi with rfl | rfl
   ·exact job_low hJ hk
   ·exact sin_low hs hk
  ·exact Nat.lt_of_lt_of_le (h.sep.low i k (hold i k hi hk)) hz
 ·by_cases hi:i=5∨i=6
  ·by_cases hj:j=5∨j=6
   ·rcases hi with rfl | rfl <;> rcases hj with rfl | rfl
    ·exact hij rfl
    ·exact hd k hik hjk
    ·exact hd k hjk hik
    ·exact hij rfl
   ·have:=hnew i k hi hik
    have:=h0 j k (hold j k hj hjk)
    omega
  ·by_cases hj:j=5∨j=6
   ·have:=hnew j k hj hjk
    have:=h0 i k (hold i k hi hik)
    omega
   ·exact h.sep.off i j k hij (hold i k hi hik) (hold j k hj hjk)
 ·rintro k ⟨i,hk⟩
  by_cases hi:i=5∨i=6
  ·exact .inr (hnew i k hi hk)
  ·exact .inl ⟨i,hold i k hi hk⟩
end
end Go.Proofs.YtffnihooekbcnaaGreat
namespace Go.Proofs.YtffnihooekbcnaaGreat
open Go.RowKit Go.Maps
attribute [local go_sem] mapAt_alloc mapAt_setCell mapAt_drew mapAt_drewN cells_str store_str eql_str neq_str guard_str len_str
theorem Sep.swap {w:World} {f:Nat→Nat→Prop} (h:Sep w f) (c:Nat) (q:Nat→Prop) (hl:∀k,q k→k<w.heap.size) (hd:∀i k,f i k→¬q k):Sep w (fun i=>if i=c then q else f i):=by
 refine ⟨fun i k hk=>?_,fun i j k hij hik hjk=>?_⟩
 ·by_cases e:i=c
  ·rw [if_pos e] at hk;exact hl k hk
  ·rw [if_neg e] at hk;exact h.low i k hk
 ·by_cases e:i=c
  ·rw [if_pos e] at hik
   rw [if_neg (fun e2=>hij (e.trans e2.symm))] at hjk
   exact hd j k hjk hik
  ·rw [if_neg e] at hik
   by_cases e2:j=c
   ·rw [if_pos e2] at hjk;exact hd i k hik hjk
   ·rw [if_neg e2] at hjk;exact h.off i j k hij hik hjk
section
variable {w w':World} {S:SimS} {p:List By}
def comPost (X:World) (S:SimS) (lb2:Nat) (o2:Nat→Prop) (v2:Value) (ys2:List Bkv) (e:Ending) (w':World):Prop :=
 e=.returned (.int .i64 0)∧∃F',SimW w' { S with lb:=lb2,o:=o2,v:=v2,ys:=ys2,F:=F' }∧StepO X (allF (simF S)) w' (allF (simF { S with lb:=lb2,o:=o2,v:=v2,ys:=ys2,F:=F' }))
theorem sCommit_calls {X:World} {lb2:Nat} {o2:Nat→Prop} {v2:Value} {ys2:List Bkv} (h:SimW w S) (hX:StepO X (allF (simF S)) w (allF (simF S))) (hL:LstW w lb2 o2 v2 ys2) (ho:∀k,o2 k→X.heap.size≤k∧¬allF (simF S) k) (hg:∀y∈ys2,GoodB y.1) (hl:ys2.length≤64) (hsz:(lsB (ys2.map (·.1))).length≤4080) :
 Calls Tryz.prog 67 #[.pointer (some ⟨S.wb,0,none⟩),.pointer (some ⟨lb2,0,none⟩)] w (comPost X S lb2 o2 v2 ys2):=by
 have c0:=h.cell
 unfold simC at c0
 have hfl:filL S.F=[]∨∃x,filL S.F=[(nLis,x)]:=by
  cases S.F with
  | none=>exact .inl rfl
  | some x=>exact .inr ⟨_,rfl⟩
 have hfm:allF (simF S) S.fm:=⟨3,.inr (.inl rfl)⟩
 have kC:=lsCommit_calls hL hg hl hsz h.fil.fil hfl h.fil.ne (fun hk=>(ho _ hk).2 hfm)
 unfold lsComPost at kC
 go_enter Tryz.func67,Tryz.ntmps67
 go_wp2_with fail
 refine kC.mono ?_
 rintro e w1 ⟨rfl,⟨sb,sm,nm,f,hF1,hS1,hn1⟩,hf1⟩
 have hwf:S.wb≠S.fm:=fun e=>h.sep.off 0 3 S.fm (by decide) e.symm (.inr (.inl rfl))
 have hB1:=h.blk.fr hf1 (by simpa using hwf)
 have hset:Fr [S.wb] w1 (w1.setCell ⟨S.wb,5,none⟩ (.pointer (some ⟨lb2,0,none⟩))):=(Fr.refl [S.wb] w1).setCell (p:=⟨S.wb,5,none⟩) (.inl (by simp)) _
 have hF2:Fr [S.wb,S.fm] w (w1.setCell ⟨S.wb,5,none⟩ (.pointer (some ⟨lb2,0,none⟩))):=(hf1.mono (fun q hq _=>by simp at hq ⊢;exact .inr hq)).trans' (hset.mono (fun q hq _=>by simp at hq ⊢;exact .inl hq))
 have hB2:Blk (w1.setCell ⟨S.wb,5,none⟩ (.pointer (some ⟨lb2,0,none⟩))) S.wb (simC { S with lb:=lb2,o:=o2,v:=v2,ys:=ys2,F:=some (sb,sm,nm,f) }) 65:=hB1.setCell 5 _
 have hwb:∀q,q∈[S.wb,S.fm]→allF (simF S) q:=fun q hq=>by
  simp at hq
  rcases hq with rfl | rfl
  ·exact ⟨0,rfl⟩
  ·exact hfm
 have hwl:allF (simF S) S.wb:=⟨0,rfl⟩
 have hz1:=hf1.size
 have hlw:∀k,allF (simF S) k→k<w.heap.size:=fun k ⟨i,hi⟩=>h.sep.low i k hi
 have hst:StepO w (ofC (fun i=>i=0∨i=3) (simF S)) (w1.setCell ⟨S.wb,5,none⟩ (.pointer (some ⟨lb2,0,none⟩))) (ofC (fun i=>i=0∨i=3) (simF { S with lb:=lb2,o:=o2,v:=v2,ys:=ys2,F:=some (sb,sm,nm,f) })):=by
  refine ⟨⟨_,hF2,fun k hk _=>?_⟩,fun k hk=>?_⟩
  ·simp at hk
   rcases hk with rfl | rfl
   ·exact ⟨0,.inl rfl,rfl⟩
   ·exact ⟨3,.inr rfl,.inr (.inl rfl)⟩
  ·obtain ⟨i,rfl | rfl,hi⟩:=hk
   ·exact .inl ⟨0,.inl rfl,hi⟩
   ·rcases hi with hi | hi | hi
    ·exact .inl ⟨3,.inr rfl,.inl hi⟩
    ·exact .inl ⟨3,.inr rfl,.inr (.inl hi)⟩
    ·rcases hi with rfl | rfl | rfl
     ·exact .inr hn1.1
     ·exact .inr hn1.2.1
     ·exact .inr hn1.2.2
 have K:=h.keep hst
 have hfil:FilesW (w1.setCell ⟨S.wb,5,none⟩ (.pointer (some ⟨lb2,0,none⟩))) S.fb S.fm (some (sb,sm,nm,f)) (ys2.map (·.1)):=by
  have hq:∀k,w.heap.size≤k→k ∉ [S.wb]:=fun k hk hm=>by rw [List.mem_singleton.1 hm] at hk;have:=hlw _ hwl;omega
  have hfb:S.fb ∉ [S.wb]:=fun hm=>h.sep.off 0 3 S.fb (by decide) (List.mem_singleton.1 hm) (.inl rfl)
  exact ⟨hF1.fr hset hfb (by simpa using fun e=>hwf e.symm),h.fil.ne,fun x hx=>by
   cases hx
   exact ⟨hS1.st.fr hset (hq _ hn1.1) (hq _ hn1.2.1) (hq _ hn1.2.2),hS1.sv,hS1.no⟩,fun e=>by cases e⟩
 have hL2:=hL.fr hF2 (fun k hk hk2=>(ho k hk2).2 (hwb k hk))
 have hsep:Sep (w1.setCell ⟨S.wb,5,none⟩ (.pointer (some ⟨lb2,0,none⟩))) (simF { S with lb:=lb2,o:=o2,v:=v2,ys:=ys2,F:=some (sb,sm,nm,f) }):=by
  have hsw:=h.sep.swap 4 o2 hL.low (fun i k hi hk=>(ho k hk).2 ⟨i,hi⟩)
  refine hsw.turn (C:=fun i=>i=0∨i=3) ?_ ?_ ?_ ?_
  ·obtain ⟨M,hf,hM⟩:=hst.fr
   refine ⟨⟨M,hf,fun k hk hl=>?_⟩,fun k hk=>?_⟩
   ·obtain ⟨i,rfl | rfl,hi⟩:=hM k hk hl
    ·exact ⟨0,.inl rfl,hi⟩
    ·exact ⟨3,.inr rfl,hi⟩
   ·rcases hst.new k hk with ⟨i,rfl | rfl,hi⟩ | h1
    ·exact .inl ⟨0,.inl rfl,hi⟩
    ·exact .inl ⟨3,.inr rfl,hi⟩
    ·exact .inr h1
  ·intro i hi
   match i,hi with
   | 0,hi=>exact absurd (.inl rfl) hi
   | 1,_=>rfl
   | 2,_=>rfl
   | 3,hi=>exact absurd (.inr rfl) hi
   | 4,_=>rfl
   | 5,_=>rfl
   | 6,_=>rfl
   | i+7,_=>exact (if_neg (by omega)).symm
  ·rintro i k (rfl | rfl) hk
   ·exact Nat.lt_of_lt_of_le (hlw k ⟨0,hk⟩) hF2.size
   ·exact filO_low hfil hk
  ·rintro i j k (rfl | rfl) (rfl | rfl) hne h1 h2
   ·exact hne rfl
   ·have h1':k=S.wb:=h1
    rcases h2 with h2 | h2 | h2
    ·exact h.sep.off 0 3 k (by decide) h1 (.inl h2)
    ·exact h.sep.off 0 3 k (by decide) h1 (.inr (.inl h2))
    ·have:=hlw k ⟨0,h1⟩
     rcases h2 with rfl | rfl | rfl <;> omega
   ·have h2':k=S.wb:=h2
    rcases h1 with h1 | h1 | h1
    ·exact h.sep.off 0 3 k (by decide) h2 (.inl h1)
    ·exact h.sep.off 0 3 k (by decide) h2 (.inr (.inl h1))
    ·have:=hlw k ⟨0,h2⟩
     rcases h1 with rfl | rfl | rfl <;> omega
   ·exact hne rfl
 have hnew:SimW (w1.setCell ⟨S.wb,5,none⟩ (.pointer (some ⟨lb2,0,none⟩))) { S with lb:=lb2,o:=o2,v:=v2,ys:=ys2,F:=some (sb,sm,nm,f) }:=⟨hB2,K.ch (by decide),K.dir (by decide),hfil,hL2,K.job (by decide),K.sin (by decide),hsep⟩
 have hall:StepO X (allF (simF S)) (w1.setCell ⟨S.wb,5,none⟩ (.pointer (some ⟨lb2,0,none⟩))) (allF (simF { S with lb:=lb2,o:=o2,v:=v2,ys:=ys2,F:=some (sb,sm,nm,f) })):=by
  refine ⟨(hX.trans (⟨⟨_,hF2,fun k hk _=>hwb k hk⟩,fun k hk=>.inl hk⟩:StepO w (allF (simF S)) _ (allF (simF S)))).fr,?_⟩
  have hXz:=hX.size
  rintro k ⟨i,hi⟩
  match i,hi with
  | 0,hi=>exact .inl ⟨0,hi⟩
  | 1,hi=>exact .inl ⟨1,hi⟩
  | 2,hi=>exact .inl ⟨2,hi⟩
  | 3,hi =>
    rcases hi with hi | hi | hi
    ·exact .inl ⟨3,.inl hi⟩
    ·exact .inl ⟨3,.inr (.inl hi)⟩
    ·rcases hi with rfl | rfl | rfl
     ·exact .inr (by have:=hn1.1;omega)
     ·exact .inr (by have:=hn1.2.1;omega)
     ·exact .inr (by have:=hn1.2.2;omega)
  | 4,hi=>exact .inr (ho k hi).1
  | 5,hi=>exact .inl ⟨5,hi⟩
  | 6,hi=>exact .inl ⟨6,hi⟩
  | _+7,hi=>exact hi.elim
 have hfin:=hidIt (And.intro hnew hall)
 have d1:=hB1.cell
 have df:=hB1.frozen
 have dl:=hB1.lt
 unfold simC at d1
 clear hnew hall hsep hL2 hfil K hst hlw hwl hwb hB2 hF2 hset hB1 kC hF1 hS1 hf1 hL h hX ho c0
 go_wp2
 go_ret
 exact ⟨rfl,_,hfin.out⟩
end
end Go.Proofs.YtffnihooekbcnaaGreat
