/-
  A region that draws its order, in the words of XHeld, at whatever condition S on the worlds that come up in it: in an activation, and in a round of a range over a function. No program in sight.
-/
import Derived.Test.YtffnihooekbcnaaGreatG05
import Derived.Test.YtffnihooekbcnaaGreatG04
import Derived.Shelf.SlMaps.Clone
set_option maxRecDepth 100000
set_option maxHeartbeats 6400000
namespace Go.Proofs.YtffnihooekbcnaaGreat
open Go
section
variable {P:Program} {ops:Array Oper} {Q:Exit→Act→World→Prop} {S:World→Prop}
def wpG (P:Program) (ops:Array Oper) (S:World→Prop) (Q:Exit→Act→World→Prop):List (Bool × Oper)→Act→World→Prop
 | [],a,w=>Q .normal a w
 | (true,o) :: rest,a,w=>∃v,YieldsIf P ops S o v a∧wpG P ops S Q rest (a.put o.dst v) w
 | (false,o) :: rest,a,w=>if Region.wanted o (yielded ops a.tmps) then o.wp P a w (fun a' w'=>∃S':World→Prop,(∀X,S' X→S X)∧S' w'∧wpG P ops S' Q rest a' w') Q else wpG P ops S Q rest (a.put o.dst undef) w
theorem anyH_S {md:Region.Mode} {S':World→Prop} (hS:∀X,S' X→S X):∀(n:Nat) (listed:Array Bool) (a:Act) (w:World),wpAnyH P md ops Q S' n listed a w→wpAnyH P md ops Q S n listed a w
 | 0,_,_,_,h=>h
 | n+1,_,_,_,h=>⟨h.1,fun i hi=>wpOp_mono (fun a' w' h'=>⟨hS _ h'.1,anyH_S hS n _ a' w' h'.2⟩) (h.2 i hi)⟩
theorem wpAnyH_G {md:Region.Mode} (hs:Region.noSelect ops=true) (hQ:∀c a a' w,Q (.panic c) a w→Q (.panic c) a' w) (d:Oper):∀(l:List (Bool × Nat)) (S:World→Prop) (listed:Array Bool) (a:Act) (w:World),(∀p∈l,p.2<ops.size) →
 fB md ops l listed=true→S w→wpG P ops S Q (inOrder ops.toList d l) a w→wpAnyH P md ops Q S l.length listed a w
 | [],S,listed,a,w,_,hB,_,h=>by
   refine wpAnyH_done ?_ h _
   simpa [fB] using hB
 | (true,k) :: l,S,listed,a,w,hl,hB,hS,h=>by
   have hk:k<ops.size:=hl _ List.mem_cons_self
   have h0:ops[k]? = some (ops.toList.getD k d):=by simp [hk]
   simp only [fB,Bool.and_eq_true] at hB
   obtain ⟨v,hy,h⟩:=h
   exact wpAnyH_take h0 hs hB.1.1 hB.1.2 (fun c a w=>hQ c _ _ w) hy hS (wpAnyH_G hs hQ d l S _ _ w (fun p hp=>hl p (List.mem_cons_of_mem _ hp)) hB.2 hS h)
 | (false,k) :: l,S,listed,a,w,hl,hB,hS,h=>by
   have hk:k<ops.size:=hl _ List.mem_cons_self
   have h0:ops[k]? = some (ops.toList.getD k d):=by simp [hk]
   simp only [fB,Bool.and_eq_true,decide_eq_true_eq] at hB
   refine wpAnyH_all hB.1 (by simp) fun i hi=>?_
   obtain rfl:i=k:=by simpa using hi
   refine wpOp_step h0 fun K' hK=>?_
   replace h:wpG P ops S Q ((false,ops.toList.getD i d) :: inOrder ops.toList d l) a w:=h
   unfold wpG at h
   split at h
   ·rename_i hw
    rw [if_pos hw]
    exact Oper.wp_mono (fun a w h=>let ⟨S',h1,h2,h3⟩:=h;hK _ _ ⟨h1 _ h2,anyH_S h1 _ _ _ _ (wpAnyH_G hs hQ d l S' _ a w (fun p hp=>hl p (List.mem_cons_of_mem _ hp)) hB.2 h2 h3)⟩) h
   ·rename_i hw
    rw [if_neg hw]
    exact hK _ _ ⟨hS,wpAnyH_G hs hQ d l S _ _ w (fun p hp=>hl p (List.mem_cons_of_mem _ hp)) hB.2 hS h⟩
def gB (ops:Array Oper) (order:List (Bool × Nat)):Bool :=
 plainOps ops && (Region.noSelect ops && decide (order.length=ops.size) && order.all (fun p=>decide (p.2<ops.size)) && fB .any ops order (Array.replicate ops.size false))
theorem wpAny_G {o:Oper} {l:List Oper} {a:Act} {w:World} (order:List (Bool × Nat)) (hB:gB (o :: l).toArray order=true) (hS:S w.drew) (h:wpG P (o :: l).toArray S (noEnd Q) (inOrder (o :: l) o order) a w.drew) :
 wpAny P .any (o :: l).toArray (noEnd Q) (o :: l).toArray.size (Array.replicate (o :: l).toArray.size false) a w.drew:=by
 simp only [gB,Bool.and_eq_true,decide_eq_true_eq,List.all_eq_true] at hB
 obtain ⟨_,⟨⟨hs,ht⟩,hk⟩,hB⟩:=hB
 have:=wpAnyH_G (P:=P) (Q:=noEnd Q) (md:=.any) hs (fun _ _ _ _ h=>h) o order S (Array.replicate (o :: l).toArray.size false) a w.drew (fun p hp=>hk p hp) hB hS h
 rw [ht] at this
 exact wpAny_of_held _ _ _ _ this
theorem noEnd_imp (e:Exit) (a:Act) (w:World) (h:noEnd Q e a w):Q e a w:=by
 cases e <;> first | exact h | exact (h:False).elim
theorem wp_region_G {id:Nat} {a:Act} {w:World} {o:Oper} {l:List Oper} (S:World→Prop) (order:List (Bool × Nat)) (hm:P.follows .mixedOrders=true) (hB:gB (o :: l).toArray order=true) (hS:S w.drew)
 (h:wpG P (o :: l).toArray S (noEnd Q) (inOrder (o :: l) o order) a w.drew):(Code.region id (o :: l).toArray true).wp P Q a w :=
 Code.wp_mono noEnd_imp (wp_region_any hm (wpAny_G order hB hS h))
theorem wpIn_region_G {lp id:Nat} {a:Act} {w:World} {o:Oper} {l:List Oper} (S:World→Prop) (order:List (Bool × Nat)) (hm:P.follows .mixedOrders=true) (hB:gB (o :: l).toArray order=true) (hS:S w.drew)
 (h:wpG P (o :: l).toArray S (noEnd Q) (inOrder (o :: l) o order) a w.drew):(Code.region id (o :: l).toArray true).wpIn (Fence.wide.inRound lp) 0 P Q a w:=by
 have hp:plainOps (o :: l).toArray=true:=by simp only [gB,Bool.and_eq_true] at hB;exact hB.1
 exact wpIn_region_any hm (anyIn_round hp _ _ _ _ (wpAny_G order hB hS h))
variable {a:Act} {w:World} {rest:List (Bool × Oper)} {o:Oper}
theorem wpG_end (h:Q .normal a w):wpG P ops S (noEnd Q) [] a w:=h
theorem wpG_pure (h:∀K:Act→Prop,(∀a,wpG P ops S Q rest a w→K a)→if Region.wanted o (yielded ops a.tmps) then ∃v,(∀w,(execOp a.eval o).run P w=.ok (.value v) w)∧K (a.put o.dst v) else K (a.put o.dst undef)) :
 wpG P ops S Q ((true,o) :: rest) a w:=by
 have:=h (fun a=>wpG P ops S Q rest a w) (fun _ h=>h)
 by_cases hw:Region.wanted o (yielded ops a.tmps)=true
 ·rw [if_pos hw] at this
  obtain ⟨v,h1,h2⟩:=this
  exact ⟨v,.inl ⟨hw,fun w _=>h1 w⟩,h2⟩
 ·rw [if_neg hw] at this
  exact ⟨undef,.inr ⟨by simpa using hw,rfl⟩,this⟩
theorem wpG_val (v:Value) (hw:Region.wanted o (yielded ops a.tmps)=true) (hr:∀W,S W→(execOp a.eval o).run P W=.ok (.value v) W) (h:wpG P ops S Q rest (a.put o.dst v) w):wpG P ops S Q ((true,o) :: rest) a w :=
 ⟨v,.inl ⟨hw,hr⟩,h⟩
theorem wpG_oneS (h:∀K:Act→World→Prop,(∀S':World→Prop,(∀X,S' X→S X)→∀a w,S' w→wpG P ops S' Q rest a w→K a w)→if Region.wanted o (yielded ops a.tmps) then o.wp P a w K Q else wpG P ops S Q rest (a.put o.dst undef) w):wpG P ops S Q ((false,o) :: rest) a w:=by
 have:=h (fun a w=>∃S':World→Prop,(∀X,S' X→S X)∧S' w∧wpG P ops S' Q rest a w) (fun S' h0 _ _ h1 h2=>⟨S',h0,h1,h2⟩)
 unfold wpG
 exact this
theorem wpG_one (h:∀K:Act→World→Prop,(∀a w,S w→wpG P ops S Q rest a w→K a w)→if Region.wanted o (yielded ops a.tmps) then o.wp P a w K Q else wpG P ops S Q rest (a.put o.dst undef) w):wpG P ops S Q ((false,o) :: rest) a w :=
 wpG_oneS fun K hK=>h K fun a w=>hK S (fun _ h=>h) a w
end
end Go.Proofs.YtffnihooekbcnaaGreat
namespace Go.Proofs.YtffnihooekbcnaaGreat
open Go.RowKit Go.Maps
structure Pl where
 tb:Nat
 mb:Nat
 nb:Nat
 db:Nat
 nv:Value
 sv:Value
 sp:List (Nat × Nat)
 dv:Nat→Value
 r:Nat→Option Nat
def datM (M:Img) (p:Pl):Value→Option Value
 | .int .i64 k=>if 0≤k then (M.d k.toNat).map fun _=>p.dv k.toNat else none
 | _=>none
theorem datM_int (M:Img) (p:Pl) (k:Int):datM M p (.int .i64 k)=if 0≤k then (M.d k.toNat).map fun _=>p.dv k.toNat else none:=rfl
theorem datM_nat (M:Img) (p:Pl) (h:Nat):datM M p (.int .i64 (h:Int))=(M.d h).map fun _=>p.dv h:=by
 rw [datM_int,if_pos (by omega),Int.toNat_natCast]
def snL (s:List (By × List Slt)) (sp:List (Nat × Nat)):List (By × Nat):=List.zipWith (fun q x=>(q.1,x.1)) s sp
structure ImgW (w:World) (ib:Nat) (p:Pl) (M:Img):Prop where
 blk:Blk w ib [.int .i64 (M.B:Int),.pointer (some ⟨p.tb,0,none⟩),.pointer (some ⟨p.nb,0,none⟩),.map (some p.db),p.sv] 197
 tab:TabW w p.tb p.mb M.t
 cnt:CntW w p.nb p.nv M.n
 dat:∃es clock,mapAt w p.db=some (es,clock)∧IsM Tryz.prog 3 es clock (datM M p)
 byt:∀h b,M.d h=some b→w.ownsRow 0 5 1 (p.dv h) b.length (b.flatMap byC)
 sn:w.ownsRow 0 349 2 p.sv M.s.length ((snL M.s p.sp).flatMap snC)
 snl:p.sp.length=M.s.length
 snt:∀i,i<M.s.length→TabW w (p.sp.getD i (0,0)).1 (p.sp.getD i (0,0)).2 (M.s.getD i zQ).2
 low:∀k,(p.r k).isSome=true→k<w.heap.size
 ri:p.r ib=some 0
 rt:p.r p.tb=some 1
 rm:p.r p.mb=some 2
 rn:p.r p.nb=some 3
 rr:∀k,p.nv.ownBlock=some k→p.r k=some 4
 rd:p.r p.db=some 5
 rs:∀k,p.sv.ownBlock=some k→p.r k=some 6
 rst:∀i,i<M.s.length→p.r (p.sp.getD i (0,0)).1=some 7∧p.r (p.sp.getD i (0,0)).2=some 7
 rb:∀h b,M.d h=some b→∀k,(p.dv h).ownBlock=some k→p.r k=some (8+h)
section
variable {w w':World} {ib:Nat} {p:Pl} {M:Img}
structure Kept (S:Nat→Prop) (w':World) (ib:Nat) (p:Pl) (M:Img):Prop where
 blk:¬S 0→Blk w' ib [.int .i64 (M.B:Int),.pointer (some ⟨p.tb,0,none⟩),.pointer (some ⟨p.nb,0,none⟩),.map (some p.db),p.sv] 197
 tab:¬S 1→¬S 2→TabW w' p.tb p.mb M.t
 cnt:¬S 3→¬S 4→CntW w' p.nb p.nv M.n
 dat:¬S 5→∃es clock,mapAt w' p.db=some (es,clock)∧IsM Tryz.prog 3 es clock (datM M p)
 byt:∀h b,M.d h=some b→¬S (8+h)→w'.ownsRow 0 5 1 (p.dv h) b.length (b.flatMap byC)
 sn:¬S 6→w'.ownsRow 0 349 2 p.sv M.s.length ((snL M.s p.sp).flatMap snC)
 snt:¬S 7→∀i,i<M.s.length→TabW w' (p.sp.getD i (0,0)).1 (p.sp.getD i (0,0)).2 (M.s.getD i zQ).2
 low:∀k,(p.r k).isSome=true→k<w'.heap.size
theorem ImgW.kept {S:Nat→Prop} {L:List Nat} (h:ImgW w ib p M) (hf:Fr L w w') (hL:∀k∈L,∀x,p.r k=some x→S x):Kept S w' ib p M:=by
 have nm:∀{k x},p.r k=some x→¬S x→k ∉ L:=fun hk hS hm=>hS (hL _ hm _ hk)
 refine ⟨fun h0=>h.blk.fr hf (nm h.ri h0),fun h1 h2=>h.tab.fr hf (nm h.rt h1) (nm h.rm h2),fun h3 h4=>h.cnt.fr hf (nm h.rn h3) (fun k hk=>nm (h.rr k hk) h4),fun h5=>?_,fun x b hb hS=>owns_fr (h.byt x b hb) hf (fun k hk=>nm (h.rb x b hb k hk) hS),
  fun h6=>owns_fr h.sn hf (fun k hk=>nm (h.rs k hk) h6),fun h7 i hi=>(h.snt i hi).fr hf (nm (h.rst i hi).1 h7) (nm (h.rst i hi).2 h7),fun k hk=>Nat.lt_of_lt_of_le (h.low k hk) hf.size⟩
 obtain ⟨es,clock,hm,hi⟩:=h.dat
 exact ⟨es,clock,mapAt_fr hm hf (nm h.rd h5),hi⟩
theorem ImgW.fr {L:List Nat} (h:ImgW w ib p M) (hf:Fr L w w') (hL:∀k∈L,p.r k=none):ImgW w' ib p M:=by
 have k:=h.kept (S:=fun _=>False) hf (fun k hk x hx=>by rw [hL k hk] at hx;cases hx)
 have nf:¬False:=fun h=>h
 exact ⟨k.blk nf,k.tab nf nf,k.cnt nf nf,k.dat nf,fun x b hb=>k.byt x b hb nf,k.sn nf,h.snl,k.snt nf,k.low,h.ri,h.rt,h.rm,h.rn,h.rr,h.rd,h.rs,h.rst,h.rb⟩
theorem ImgW.fr0 (h:ImgW w ib p M) (hf:Fr [] w w'):ImgW w' ib p M:=h.fr hf (fun _ h=>by cases h)
theorem ImgW.new (h:ImgW w ib p M) {k:Nat} (hk:w.heap.size≤k):p.r k=none:=by
 cases hr:p.r k with
 | none=>rfl
 | some x =>
   have:=h.low k (by rw [hr];rfl)
   omega
def own (p:Pl) (w:World):List Nat:=(List.range w.heap.size).filter fun k=>(p.r k).isSome
theorem mem_own {k:Nat}:k∈own p w ↔ k<w.heap.size∧(p.r k).isSome=true:=by simp [own]
structure Step (w:World) (p:Pl) (w':World) (p':Pl):Prop where
 fr:Fr (own p w) w w'
 new:∀k,(p'.r k).isSome=true→(p.r k).isSome=true∨w.heap.size≤k
theorem Step.refl (w:World) (p:Pl):Step w p w p:=⟨Fr.refl _ _,fun _ h=>.inl h⟩
theorem Step.trans {w1 w2:World} {p1 p2:Pl} (h:Step w p w1 p1) (h':Step w1 p1 w2 p2):Step w p w2 p2:=by
 refine ⟨h.fr.trans h'.fr fun x hx hl=>?_,fun k hk=>?_⟩
 ·rcases h.new x (mem_own.1 hx).2 with h1 | h1
  ·exact mem_own.2 ⟨hl,h1⟩
  ·omega
 ·rcases h'.new k hk with h1 | h1
  ·exact h.new k h1
  ·exact .inr (Nat.le_trans h.fr.size h1)
theorem Step.of_fr {L:List Nat} (hf:Fr L w w') (hL:∀k∈L,k<w.heap.size→(p.r k).isSome=true):Step w p w' p:=⟨hf.mono fun x hx hl=>mem_own.2 ⟨hl,hL x hx hl⟩,fun _ h=>.inl h⟩
theorem Step.fr0 (hf:Fr [] w w'):Step w p w' p:=Step.of_fr hf (fun _ h=>by cases h)
theorem Step.box {w2:World} {p1:Pl} {L:List Nat} (h:Step w p w' p1) (hf:Fr L w' w2) (hL:∀k∈L,w.heap.size≤k):Step w p w2 p1:=⟨h.fr.trans hf (fun x hx hl=>by have:=hL x hx;omega),h.new⟩
theorem ImgW.setT (h:ImgW w ib p M) {t':List Slt} {L:List Nat} (hT:TabW w' p.tb p.mb t') (hf:Fr L w w') (hL:∀k∈L,k=p.tb∨k=p.mb):ImgW w' ib p { M with t:=t' }:=by
 have k:=h.kept (S:=fun x=>x=1∨x=2) hf (fun k hk x hx=>by
  rcases hL k hk with rfl | rfl
  ·rw [h.rt] at hx;cases hx;exact .inl rfl
  ·rw [h.rm] at hx;cases hx;exact .inr rfl)
 exact ⟨k.blk (by omega),hT,k.cnt (by omega) (by omega),k.dat (by omega),fun x b hb=>k.byt x b hb (by omega),k.sn (by omega),h.snl,k.snt (by omega),k.low,h.ri,h.rt,h.rm,h.rn,h.rr,h.rd,h.rs,h.rst,h.rb⟩
theorem ImgW.setN (h:ImgW w ib p M) {n':List Nat} {L:List Nat} (hN:CntW w' p.nb p.nv n') (hf:Fr L w w') (hL:∀k∈L,p.nv.ownBlock=some k):ImgW w' ib p { M with n:=n' }:=by
 have k:=h.kept (S:=fun x=>x=4) hf (fun k hk x hx=>by
  rw [h.rr k (hL k hk)] at hx;cases hx;rfl)
 exact ⟨k.blk (by omega),k.tab (by omega) (by omega),hN,k.dat (by omega),fun x b hb=>k.byt x b hb (by omega),k.sn (by omega),h.snl,k.snt (by omega),k.low,h.ri,h.rt,h.rm,h.rn,h.rr,h.rd,h.rs,h.rst,h.rb⟩
theorem datM_del (M:Img) (p:Pl) (h:Nat):upd (datM M p) (.int .i64 (h:Int)) none=datM { M with d:=setF M.d h none } p:=by
 funext v
 by_cases e:v=.int .i64 (h:Int)
 ·subst e
  rw [upd_same,datM_nat]
  simp [setF]
 ·rw [upd_other _ _ e]
  cases v with
  | int q k =>
    cases q <;> first | rfl | skip
    rw [datM_int,datM_int]
    by_cases hk:0≤k
    ·rw [if_pos hk,if_pos hk]
     have:k.toNat≠h:=fun e'=>e (by rw [←e'];congr 1;omega)
     simp [setF,this]
    ·rw [if_neg hk,if_neg hk]
  | _=>rfl
theorem ImgW.delD (h:ImgW w ib p M) {x:Nat} {es:Array MapEntry} {clock:Nat} (hm:mapAt w' p.db=some (es,clock)) (hi:IsM Tryz.prog 3 es clock (upd (datM M p) (.int .i64 (x:Int)) none)) (hf:Fr [p.db] w w') :
 ImgW w' ib p { M with d:=setF M.d x none }:=by
 have k:=h.kept (S:=fun x=>x=5) hf (fun k hk x hx=>by
  rw [List.mem_singleton.1 hk,h.rd] at hx;cases hx;rfl)
 have hd:∀y b,setF M.d x none y=some b→M.d y=some b:=fun y b hb=>by
  unfold setF at hb
  split at hb
  ·cases hb
  ·exact hb
 rw [datM_del] at hi
 exact ⟨k.blk (by omega),k.tab (by omega) (by omega),k.cnt (by omega) (by omega),⟨es,clock,hm,hi⟩,fun y b hb=>k.byt y b (hd y b hb) (by omega),k.sn (by omega),h.snl,k.snt (by omega),k.low,h.ri,h.rt,h.rm,h.rn,h.rr,h.rd,h.rs,h.rst,fun y b hb=>h.rb y b (hd y b hb)⟩
def Pl.putD (p:Pl) (x:Nat) (v:Value):Pl:={ p with dv:=fun y=>if y=x then v else p.dv y,r:=fun k=>if v.ownBlock=some k then some (8+x) else p.r k }
theorem datM_put (M:Img) (p:Pl) (x:Nat) (v:Value) (b:By):upd (datM M p) (.int .i64 (x:Int)) (some v)=datM { M with d:=setF M.d x (some b) } (p.putD x v):=by
 funext u
 by_cases e:u=.int .i64 (x:Int)
 ·subst e
  rw [upd_same,datM_nat]
  simp [setF,Pl.putD]
 ·rw [upd_other _ _ e]
  cases u with
  | int q k =>
    cases q <;> first | rfl | skip
    rw [datM_int,datM_int]
    by_cases hk:0≤k
    ·rw [if_pos hk,if_pos hk]
     have:k.toNat≠x:=fun e'=>e (by rw [←e'];congr 1;omega)
     simp [setF,Pl.putD,this]
    ·rw [if_neg hk,if_neg hk]
  | _=>rfl
theorem ImgW.putD (h:ImgW w ib p M) {x:Nat} {v:Value} {b:By} {es:Array MapEntry} {clock:Nat} (hm:mapAt w' p.db=some (es,clock)) (hi:IsM Tryz.prog 3 es clock (upd (datM M p) (.int .i64 (x:Int)) (some v)))
 (hf:Fr [p.db] w w') (hv:w.ownsRow 0 5 1 v b.length (b.flatMap byC)) (hn:∀k,v.ownBlock=some k→p.r k=none):ImgW w' ib (p.putD x v) { M with d:=setF M.d x (some b) }:=by
 have k:=h.kept (S:=fun x=>x=5) hf (fun k hk x hx=>by
  rw [List.mem_singleton.1 hk,h.rd] at hx;cases hx;rfl)
 have hr:∀{k y},p.r k=some y→(p.putD x v).r k=some y:=fun {k y} hk=>by
  have:¬v.ownBlock=some k:=fun e=>by rw [hn k e] at hk;cases hk
  show (if v.ownBlock=some k then some (8+x) else p.r k)=some y
  rw [if_neg this]
  exact hk
 have hv':w'.ownsRow 0 5 1 v b.length (b.flatMap byC):=owns_fr hv hf (fun k hk hm=>by
  rw [List.mem_singleton.1 hm] at hk
  have:=hn _ hk
  rw [h.rd] at this
  cases this)
 rw [datM_put M p x v b] at hi
 refine ⟨k.blk (by omega),k.tab (by omega) (by omega),k.cnt (by omega) (by omega),⟨es,clock,hm,hi⟩,fun y c hc=>?_,k.sn (by omega),h.snl,k.snt (by omega),fun y hy=>?_,hr h.ri,hr h.rt,hr h.rm,hr h.rn,fun k hk=>hr (h.rr k hk),hr h.rd,fun k hk=>hr (h.rs k hk),fun i hi=>⟨hr (h.rst i hi).1,hr (h.rst i hi).2⟩,fun y c hc q hq=>?_⟩
 ·by_cases e:y=x
  ·subst e
   simp only [setF,if_true] at hc
   cases hc
   simpa [Pl.putD] using hv'
  ·simp only [setF,if_neg e] at hc
   have:=k.byt y c hc (by omega)
   simpa [Pl.putD,e] using this
 ·by_cases e:v.ownBlock=some y
  ·exact Nat.lt_of_lt_of_le (hv.lt y e).2 hf.size
  ·exact k.low y (by simpa [Pl.putD,e] using hy)
 ·by_cases e:y=x
  ·subst e
   have hq':v.ownBlock=some q:=by simpa [Pl.putD] using hq
   simp [Pl.putD,hq']
  ·simp only [setF,if_neg e] at hc
   have hq':(p.dv y).ownBlock=some q:=by simpa [Pl.putD,e] using hq
   exact hr (h.rb y c hc q hq')
theorem ImgW.setB (h:ImgW w ib p M) {x:Nat} {b b':By} (hb:M.d x=some b) {L:List Nat} (hv:w'.ownsRow 0 5 1 (p.dv x) b'.length (b'.flatMap byC)) (hf:Fr L w w') (hL:∀k∈L,(p.dv x).ownBlock=some k) :
 ImgW w' ib p { M with d:=setF M.d x (some b') }:=by
 have k:=h.kept (S:=fun y=>y=8+x) hf (fun k hk y hy=>by
  rw [h.rb x b hb k (hL k hk)] at hy;cases hy;rfl)
 have hdat:datM { M with d:=setF M.d x (some b') } p=datM M p:=by
  funext u
  cases u with
  | int q k =>
    cases q <;> first | rfl | skip
    rw [datM_int,datM_int]
    by_cases hk:0≤k
    ·rw [if_pos hk,if_pos hk]
     by_cases e:k.toNat=x
     ·rw [e,hb];simp [setF]
     ·simp [setF,e]
    ·rw [if_neg hk,if_neg hk]
  | _=>rfl
 refine ⟨k.blk (by omega),k.tab (by omega) (by omega),k.cnt (by omega) (by omega),by rw [hdat];exact k.dat (by omega),fun y c hc=>?_,k.sn (by omega),h.snl,k.snt (by omega),k.low,h.ri,h.rt,h.rm,h.rn,h.rr,h.rd,h.rs,h.rst,fun y c hc=>?_⟩
 ·by_cases e:y=x
  ·subst e
   simp only [setF,if_true] at hc
   cases hc
   exact hv
  ·simp only [setF,if_neg e] at hc
   exact k.byt y c hc (by omega)
 ·by_cases e:y=x
  ·subst e
   exact h.rb y b hb
  ·simp only [setF,if_neg e] at hc
   exact h.rb y c hc
end
end Go.Proofs.YtffnihooekbcnaaGreat
namespace Go.Proofs.YtffnihooekbcnaaGreat
open Go
section
variable {P:Program} {ops:Array Oper} {Q:Exit→Act→World→Prop} {md:Region.Mode} {S:World→Prop} {z:Nat}
def wpAnyZ (P:Program) (md:Region.Mode) (ops:Array Oper) (Q:Exit→Act→World→Prop) (S:World→Prop) (z:Nat):Nat→Array Bool→Act→World→Prop
 | 0,listed,a,w=>Region.ready md ops listed=[]∧Q .normal a w
 | fuel+1,listed,a,w =>
   (Region.ready md ops listed=[]→Q .normal a w) ∧
   ∀i∈Region.ready md ops listed,wpOp P ops Q i (fun a' w'=>(i≠z→S w')∧wpAnyZ P md ops Q S z fuel (listed.setIfInBounds i true) a' w') a w
theorem wpAny_of_Z:∀(fuel:Nat) (listed:Array Bool) (a:Act) (w:World),wpAnyZ P md ops Q S z fuel listed a w→wpAny P md ops Q fuel listed a w
 | 0,_,_,_,h=>h
 | fuel+1,_,_,_,h=>⟨h.1,fun i hi=>wpOp_mono (fun a' w' h'=>wpAny_of_Z fuel _ a' w' h'.2) (h.2 i hi)⟩
theorem wpAnyZ_S {S':World→Prop} (hS:∀X,S' X→S X):∀(n:Nat) (listed:Array Bool) (a:Act) (w:World),wpAnyZ P md ops Q S' z n listed a w→wpAnyZ P md ops Q S z n listed a w
 | 0,_,_,_,h=>h
 | n+1,_,_,_,h=>⟨h.1,fun i hi=>wpOp_mono (fun a' w' h'=>⟨fun hz=>hS _ (h'.1 hz),wpAnyZ_S hS n _ a' w' h'.2⟩) (h.2 i hi)⟩
theorem wpAnyZ_first {i:Nat} {oi:Oper} {v:Value} (hi:ops[i]? = some oi) (hsel:∀(j:Nat) (o:Oper) cs b,ops[j]? = some o→o.op≠.select cs b)
 (hQ:∀c a w,Q (.panic c) (a.put oi.dst v) w→Q (.panic c) a w) (hz:∀oz,ops[z]? = some oz→∃e∈oz.after,Region.binds md e=true∧e.on=i) (hiz:i≠z) :
 ∀(fuel:Nat) (listed:Array Bool) (a:Act) (w:World),
  (∀j oj,ops[j]? = some oj→j≠i→listed.getD j true=false→(∀e∈oj.after,Region.binds md e=true→e.on≠i)→oi.apart ops oj=true) →
  i∈Region.ready md ops listed→YieldsIf P ops S oi v a→S w →
  wpAnyZ P md ops Q S z fuel (listed.setIfInBounds i true) (a.put oi.dst v) w→wpAnyZ P md ops Q S z (fuel+1) listed a w:=by
 intro fuel
 induction fuel with
 | zero =>
   intro listed a w _ hr hy hS H
   refine ⟨fun h=>(by rw [h] at hr;cases hr),fun j hj=>?_⟩
   by_cases hji:j=i
   ·subst hji;exact hy.wpOp hi hS ⟨fun _=>hS,H⟩
   ·have:=ready_mono hj hji
    rw [H.1] at this
    cases this
 | succ fuel ih =>
   intro listed a w hfree hr hy hS H
   refine ⟨fun h=>(by rw [h] at hr;cases hr),fun j hj=>?_⟩
   by_cases hji:j=i
   ·subst hji;exact hy.wpOp hi hS ⟨fun _=>hS,H⟩
   ·have h1:=H.2 j (ready_mono hj hji)
    obtain ⟨hjun,oj,hoj,hall⟩:=mem_ready.1 hj
    have hnot:∀e∈oj.after,Region.binds md e=true→e.on≠i:=fun e he hb heq=>by
     have h1:=hall e he hb
     have h0:=(mem_ready.1 hr).1
     rw [heq] at h1
     rcases Nat.lt_or_ge i listed.size with h' | h'
     ·simp [h'] at h0 h1;rw [h0] at h1;cases h1
     ·simp [Array.getElem?_eq_none h'] at h1
    have hjz:j≠z:=fun e=>by
     subst e
     obtain ⟨e,he,hb,ho⟩:=hz oj hoj
     exact hnot e he hb ho
    have h2:=wpOp_putIf hoj (hfree j oj hoj hji hjun hnot) (fun cs b=>hsel i oi cs b hi) (fun cs b=>hsel j oj cs b hoj) hQ hy h1
    have hfree':∀k ok,ops[k]? = some ok→k≠i→(listed.setIfInBounds j true).getD k true=false →
     (∀e∈ok.after,Region.binds md e=true→e.on≠i)→oi.apart ops ok=true:=fun k ok hk hki hun hno=>by
     refine hfree k ok hk hki ?_ hno
     by_cases hjk:j=k
     ·subst hjk;exact hjun
     ·rw [getD_set_ne true hjk] at hun;exact hun
    refine wpOp_mono (fun a' w' h3=>⟨fun _=>h3.2.1 hjz,ih (listed.setIfInBounds j true) a' w' hfree' (ready_mono hr (Ne.symm hji)) h3.1 (h3.2.1 hjz) ?_⟩) h2
    rw [Array.setIfInBounds_comm _ _ hji]
    exact h3.2.2
def waits (md:Region.Mode) (ops:Array Oper) (z i:Nat):Bool:=i != z && match ops[z]? with | some oz=>oz.after.any (fun e=>Region.binds md e && e.on == i) | none=>false
theorem wpAnyZ_take {i:Nat} {oi:Oper} {v:Value} {fuel:Nat} {listed:Array Bool} {a:Act} {w:World} (hi:ops[i]? = some oi)
 (hs:Region.noSelect ops=true) (hf:Region.free md ops listed i=true) (hr:(Region.ready md ops listed).contains i=true) (hw:waits md ops z i=true)
 (hQ:∀c a w,Q (.panic c) (a.put oi.dst v) w→Q (.panic c) a w) (hy:YieldsIf P ops S oi v a) (hS:S w)
 (h:wpAnyZ P md ops Q S z fuel (listed.setIfInBounds i true) (a.put oi.dst v) w):wpAnyZ P md ops Q S z (fuel+1) listed a w:=by
 unfold waits at hw
 simp only [Bool.and_eq_true,bne_iff_ne,ne_eq] at hw
 refine wpAnyZ_first hi (Region.noSelect_spec hs) hQ (fun oz hz=>?_) hw.1 fuel listed a w (Region.free_spec hi hf) (by simpa using hr) hy hS h
 have h2:=hw.2
 rw [hz] at h2
 simp only [Array.any_eq_true] at h2
 obtain ⟨k,hk,h2⟩:=h2
 simp only [Bool.and_eq_true,beq_iff_eq] at h2
 exact ⟨_,Array.getElem_mem hk,h2.1,h2.2⟩
def lastQ (P:Program) (ops:Array Oper) (o:Oper) (Q:Exit→Act→World→Prop):Exit→Act→World→Prop
 | .normal,a,w=>if Region.wanted o (yielded ops a.tmps) then o.wp P a w (fun a' w'=>Q .normal a' w') Q else Q .normal (a.put o.dst undef) w
 | e,a,w=>Q e a w
theorem wp_congrQ {o:Oper} {a:Act} {w:World} {K:Act→World→Prop} {Q1 Q2:Exit→Act→World→Prop} (h1:∀c a w,Q1 (.panic c) a w→Q2 (.panic c) a w) (h2:∀a w,Q1 .outgrown a w→Q2 .outgrown a w) (h:o.wp P a w K Q1):o.wp P a w K Q2:=by
 unfold Oper.wp at *
 generalize (execOp a.eval o).run P w=r at *
 have hl:LetsOut Q1→LetsOut Q2:=fun ⟨a,w,h⟩=>⟨a,w,h2 a w h⟩
 cases r with
 | ok n w' =>
   cases n <;> simp only [Oper.upon] at h ⊢ <;>
    first
     | exact h
     | exact Calls.mono h (fun e w'' he=>by cases e <;> first | exact he | exact h1 _ _ _ he | exact hl he)
 | halt x w'=>cases x <;> simp only [Oper.upon] at h ⊢ <;> first | exact h | exact h1 _ _ _ h
def zB (md:Region.Mode) (ops:Array Oper) (z:Nat):List (Bool × Nat)→Array Bool→Bool
 | [],listed=>decide (Region.ready md ops listed=[z]) && (Region.ready md ops (listed.setIfInBounds z true)).isEmpty
 | (true,k) :: rest,listed=>Region.free md ops listed k && (Region.ready md ops listed).contains k && waits md ops z k && zB md ops z rest (listed.setIfInBounds k true)
 | (false,k) :: rest,listed=>decide (Region.ready md ops listed=[k]) && zB md ops z rest (listed.setIfInBounds k true)
theorem wpAnyZ_G (hs:Region.noSelect ops=true) (hQ:∀c a a' w,Q (.panic c) a w→Q (.panic c) a' w) (d:Oper) (hz:z<ops.size):∀(l:List (Bool × Nat)) (S:World→Prop) (listed:Array Bool) (a:Act) (w:World),(∀p∈l,p.2<ops.size) →
 zB md ops z l listed=true→S w→wpG P ops S (lastQ P ops (ops.toList.getD z d) Q) (inOrder ops.toList d l) a w→wpAnyZ P md ops Q S z (l.length+1) listed a w
 | [],S,listed,a,w,_,hB,_,h=>by
   simp only [zB,Bool.and_eq_true,decide_eq_true_eq,List.isEmpty_iff] at hB
   have h0:ops[z]? = some (ops.toList.getD z d):=by simp [hz]
   refine ⟨fun hr=>(by rw [hB.1] at hr;cases hr),fun i hi=>?_⟩
   rw [hB.1] at hi
   obtain rfl:=List.mem_singleton.1 hi
   refine wpOp_step h0 fun K' hK=>?_
   replace h:(if Region.wanted (ops.toList.getD i d) (yielded ops a.tmps) then (ops.toList.getD i d).wp P a w (fun a' w'=>Q .normal a' w') Q else Q .normal (a.put (ops.toList.getD i d).dst undef) w):=h
   split at h
   ·rename_i hw
    rw [if_pos hw]
    exact Oper.wp_mono (fun a w h=>hK _ _ ⟨fun hne=>absurd rfl hne,hB.2,h⟩) h
   ·rename_i hw
    rw [if_neg hw]
    exact hK _ _ ⟨fun hne=>absurd rfl hne,hB.2,h⟩
 | (true,k) :: l,S,listed,a,w,hl,hB,hS,h=>by
   have hk:k<ops.size:=hl _ List.mem_cons_self
   have h0:ops[k]? = some (ops.toList.getD k d):=by simp [hk]
   simp only [zB,Bool.and_eq_true] at hB
   obtain ⟨v,hy,h⟩:=h
   exact wpAnyZ_take h0 hs hB.1.1.1 hB.1.1.2 hB.1.2 (fun c a w=>hQ c _ _ w) hy hS (wpAnyZ_G hs hQ d hz l S _ _ w (fun p hp=>hl p (List.mem_cons_of_mem _ hp)) hB.2 hS h)
 | (false,k) :: l,S,listed,a,w,hl,hB,hS,h=>by
   have hk:k<ops.size:=hl _ List.mem_cons_self
   have h0:ops[k]? = some (ops.toList.getD k d):=by simp [hk]
   simp only [zB,Bool.and_eq_true,decide_eq_true_eq] at hB
   refine ⟨fun hr=>(by rw [hB.1] at hr;cases hr),fun i hi=>?_⟩
   rw [hB.1] at hi
   obtain rfl:=List.mem_singleton.1 hi
   refine wpOp_step h0 fun K' hK=>?_
   replace h:wpG P ops S (lastQ P ops (ops.toList.getD z d) Q) ((false,ops.toList.getD i d) :: inOrder ops.toList d l) a w:=h
   unfold wpG at h
   split at h
   ·rename_i hw
    rw [if_pos hw]
    have h':=wp_congrQ (Q1:=lastQ P ops (ops.toList.getD z d) Q) (Q2:=Q) (fun c a w h=>h) (fun a w h=>h) h
    exact Oper.wp_mono (fun a w h=>let ⟨S',h1,h2,h3⟩:=h;hK _ _ ⟨fun _=>h1 _ h2,wpAnyZ_S h1 _ _ _ _ (wpAnyZ_G hs hQ d hz l S' _ a w (fun p hp=>hl p (List.mem_cons_of_mem _ hp)) hB.2 h2 h3)⟩) h'
   ·rename_i hw
    rw [if_neg hw]
    exact hK _ _ ⟨fun _=>hS,wpAnyZ_G hs hQ d hz l S _ _ w (fun p hp=>hl p (List.mem_cons_of_mem _ hp)) hB.2 hS h⟩
def gzB (ops:Array Oper) (z:Nat) (order:List (Bool × Nat)):Bool :=
 plainOps ops && (Region.noSelect ops && decide (order.length+1=ops.size) && decide (z<ops.size) && order.all (fun p=>decide (p.2<ops.size)) && zB .any ops z order (Array.replicate ops.size false))
theorem wpAny_Z {o:Oper} {l:List Oper} {a:Act} {w:World} (order:List (Bool × Nat)) (hB:gzB (o :: l).toArray z order=true) (hS:S w.drew) (h:wpG P (o :: l).toArray S (lastQ P (o :: l).toArray ((o :: l).getD z o) (noEnd Q)) (inOrder (o :: l) o order) a w.drew) :
 wpAny P .any (o :: l).toArray (noEnd Q) (o :: l).toArray.size (Array.replicate (o :: l).toArray.size false) a w.drew:=by
 simp only [gzB,Bool.and_eq_true,decide_eq_true_eq,List.all_eq_true] at hB
 obtain ⟨_,⟨⟨⟨hs,ht⟩,hz⟩,hk⟩,hB⟩:=hB
 have:=wpAnyZ_G (P:=P) (Q:=noEnd Q) (md:=.any) hs (fun _ _ _ _ h=>h) o hz order S (Array.replicate (o :: l).toArray.size false) a w.drew (fun p hp=>hk p hp) hB hS h
 rw [ht] at this
 exact wpAny_of_Z _ _ _ _ this
theorem wp_region_Z {id:Nat} {a:Act} {w:World} {o:Oper} {l:List Oper} (z:Nat) (S:World→Prop) (order:List (Bool × Nat)) (hm:P.follows .mixedOrders=true) (hB:gzB (o :: l).toArray z order=true) (hS:S w.drew)
 (h:wpG P (o :: l).toArray S (lastQ P (o :: l).toArray ((o :: l).getD z o) (noEnd Q)) (inOrder (o :: l) o order) a w.drew):(Code.region id (o :: l).toArray true).wp P Q a w :=
 Code.wp_mono noEnd_imp (wp_region_any hm (wpAny_Z order hB hS h))
theorem wpIn_region_Z {lp id:Nat} {a:Act} {w:World} {o:Oper} {l:List Oper} (z:Nat) (S:World→Prop) (order:List (Bool × Nat)) (hm:P.follows .mixedOrders=true) (hB:gzB (o :: l).toArray z order=true) (hS:S w.drew)
 (h:wpG P (o :: l).toArray S (lastQ P (o :: l).toArray ((o :: l).getD z o) (noEnd Q)) (inOrder (o :: l) o order) a w.drew):(Code.region id (o :: l).toArray true).wpIn (Fence.wide.inRound lp) 0 P Q a w:=by
 have hp:plainOps (o :: l).toArray=true:=by simp only [gzB,Bool.and_eq_true] at hB;exact hB.1
 exact wpIn_region_any hm (anyIn_round hp _ _ _ _ (wpAny_Z order hB hS h))
theorem wpG_last {a:Act} {w:World} {o:Oper} (h:∀K:Act→World→Prop,(∀a w,Q .normal a w→K a w)→if Region.wanted o (yielded ops a.tmps) then o.wp P a w K (noEnd Q) else K (a.put o.dst undef) w):wpG P ops S (lastQ P ops o (noEnd Q)) [] a w :=
 h (fun a w=>noEnd Q .normal a w) (fun _ _ h=>h)
end
end Go.Proofs.YtffnihooekbcnaaGreat
namespace Go.Proofs.YtffnihooekbcnaaGreat
open Go.RowKit
def asQ (K:Act→World→Prop) (Q:Exit→Act→World→Prop):Exit→Act→World→Prop
 | .normal,a,w=>K a w
 | e,a,w=>Q e a w
theorem wp_of_list {P:Program} {ops:Array Oper} {o:Oper} {a:Act} {w:World} {K:Act→World→Prop} {Q:Exit→Act→World→Prop} (hg:o.guard=none) (hQ:∀a w,¬Q .outgrown a w) (h:wpList P ops (asQ K Q) [o] a w):o.wp P a w K Q:=by
 have hw:Region.wanted o (yielded ops a.tmps)=true:=by simp [Region.wanted,hg]
 unfold wpList at h
 rw [if_pos hw] at h
 rcases h with h | ⟨_,a,w,h⟩
 ·exact wp_congrQ (Q1:=asQ K Q) (Q2:=Q) (fun c a w h=>h) (fun a w h=>h) h
 ·exact absurd h (hQ a w)
theorem wpG_list {P:Program} {ops:Array Oper} {S:World→Prop} {Q:Exit→Act→World→Prop} {a:Act} {w:World} {rest:List (Bool × Oper)} {o:Oper} (hg:o.guard=none) (hQ:∀a w,¬Q .outgrown a w)
 (h:∀K:Act→World→Prop,(∀S':World→Prop,(∀X,S' X→S X)→∀a w,S' w→wpG P ops S' Q rest a w→K a w)→wpList P ops (asQ K Q) [o] a w):wpG P ops S Q ((false,o) :: rest) a w:=by
 have hw:Region.wanted o (yielded ops a.tmps)=true:=by simp [Region.wanted,hg]
 refine wpG_oneS fun K hK=>?_
 rw [if_pos hw]
 exact wp_of_list hg hQ (h K hK)
end Go.Proofs.YtffnihooekbcnaaGreat
namespace Go.Proofs.YtffnihooekbcnaaGreat
open Go.RowKit Go.Maps
attribute [local go_sem] mapAt_alloc mapAt_setCell mapAt_drew mapAt_drewN cells_str store_str
theorem keyH {k:Nat} (h:k<512):keyOf Tryz.prog 3 (.int .i64 (k:Int))=some (.int .i64 (k:Int)):=keyOf_int_mk Tryz.underlying3 (by simp [Lit.wf,IntKind.min,IntKind.max,IntKind.signed,IntKind.bits];omega)
def allI (M:Img):Nat:=M.t.length*2 ^ M.B
def insideI (M:Img) (at_ long:Int):Int:=if long<0 then 1 else if at_<0∨long > allI M∨at_ > allI M - long then 121 else 0
section
variable {ib:Nat} {p:Pl} {M:Img}
theorem iSize_calls (w:World) (h:ImgW w ib p M):Calls Tryz.prog 87 #[.pointer (some ⟨ib,0,none⟩)] w fun e w'=>e=.returned (.int .i64 M.t.length)∧w=w':=by
 have c:=h.blk.cell
 have kL:=Len_calls p.tb p.mb M.t w h.tab
 clear h
 go_enter Tryz.func87,Tryz.ntmps87
 go_wp2_with fail
 refine kL.mono ?_
 rintro e w1 ⟨rfl,rfl⟩
 go_wp2
 go_ret
 exact ⟨rfl,rfl⟩
theorem iKind_calls (x:Int) (w:World) (h:ImgW w ib p M):Calls Tryz.prog 92 #[.pointer (some ⟨ib,0,none⟩),.int .i64 x] w fun e w'=>e=.returned (.int .i64 (tget M.t x).1)∧Fr [] w w':=by
 have c:=h.blk.cell
 have kG:=Get_calls p.tb p.mb M.t x w h.tab
 clear h
 generalize tget M.t x=s at *
 obtain ⟨a,b,o⟩:=s
 unfold slotV at kG
 simp only at kG
 have fk:=fieldKind (.int .i64 a) (.int .i64 b) (.bool o)
 go_enter Tryz.func92,Tryz.ntmps92
 go_wp2_with fail
 refine kG.mono ?_
 rintro e w1 ⟨rfl,hf⟩
 go_wp2
 go_ret
 exact ⟨rfl,hf⟩
theorem iFree_calls (w:World) (h:ImgW w ib p M):Calls Tryz.prog 139 #[.pointer (some ⟨ib,0,none⟩)] w fun e w'=>e=.returned (.int .i64 (freeN M.n:Nat))∧w=w':=by
 have c:=h.blk.cell
 have kF:=cFree_calls p.nb p.nv M.n w h.cnt
 clear h
 go_enter Tryz.func139,Tryz.ntmps139
 go_wp2_with fail
 refine kF.mono ?_
 rintro e w1 ⟨rfl,rfl⟩
 go_wp2
 go_ret
 exact ⟨rfl,rfl⟩
theorem iBytes_calls (w:World) (h:ImgW w ib p M) (hB:M.B≤3):Calls Tryz.prog 142 #[.pointer (some ⟨ib,0,none⟩)] w fun e w'=>e=.returned (.int .i64 (M.z:Nat))∧w=w':=by
 have c:=h.blk.cell
 clear h
 have hm:(16:Int)*2 ^ M.B=(M.z:Nat):=by unfold Img.z;push_cast;rfl
 have hz:M.z≤128:=by
  unfold Img.z
  have:2 ^ M.B≤2 ^ 3:=Nat.pow_le_pow_right (by omega) hB
  omega
 have hw:IntKind.i64.wrap (M.z:Int)=(M.z:Int):=IntWalk.i64_in _ (by omega)
 generalize M.z=Z at *
 generalize M.B=B at *
 go_enter Tryz.func142,Tryz.ntmps142
 go_wp2
 go_ret
 exact ⟨rfl,rfl⟩
theorem Writes_calls (k:Int) (x:Int) (o:Bool) (w:World):Calls Tryz.prog 179 #[.agg #[.int .i64 k,.int .i64 x,.bool o]] w fun e w'=>e=.returned (.bool (decide (k=1) && o))∧Fr [] w w':=by
 have c:=(Blk.new w [.int .i64 k,.int .i64 x,.bool o] 216).cell
 by_cases hk:k=1
 ·subst hk
  go_enter Tryz.func179,Tryz.ntmps179
  go_wp2
  go_ret
  exact ⟨by simp,(Fr.refl _ _).alloc _⟩
 ·have hk':(k == 1)=false:=by simpa using hk
  have hd:decide (k=1)=false:=decide_eq_false hk
  rw [hd]
  clear hk hd
  go_enter Tryz.func179,Tryz.ntmps179
  go_wp2
  go_ret
  exact ⟨rfl,(Fr.refl _ _).alloc _⟩
theorem iNeeds_calls (c f t a:Int) (w:World) (h:ImgW w ib p M):Calls Tryz.prog 138 #[.pointer (some ⟨ib,0,none⟩),.agg #[.int .i64 c,.int .i64 f,.int .i64 t,.int .i64 a]] w fun e w'=>e=.returned (.bool (needB (tget M.t c)))∧Fr [] w w':=by
 have hf:=(Fr.refl [] w).alloc (.cells #[.int .i64 c,.int .i64 f,.int .i64 t,.int .i64 a] 201)
 have B:=Blk.new w [.int .i64 c,.int .i64 f,.int .i64 t,.int .i64 a] 201
 have h1:=h.fr0 hf
 have b1:=h1.blk
 have kG:=fun W (hW:Fr [] ((w.alloc (.cells #[.int .i64 c,.int .i64 f,.int .i64 t,.int .i64 a] 201))) W)=>Get_calls p.tb p.mb M.t c W (h1.fr0 hW).tab
 unfold needB
 generalize tget M.t c=s at *
 obtain ⟨k,x,o⟩:=s
 clear h h1
 go_enter Tryz.func138,Tryz.ntmps138
 go_wp2_with fail
 generalize w.alloc (.cells #[.int .i64 c,.int .i64 f,.int .i64 t,.int .i64 a] 201)=w1 at *
 have hd:Fr [] w1 w1.drew:=(Fr.refl [] w1).drew
 refine wp_region_G (Fr [] w1.drew) [(true,0),(true,1),(true,2),(true,3),(true,4),(true,5),(false,6),(false,7),(true,8),(true,9)] (by as_aux_lemma=>kernel_rfl) (by as_aux_lemma=>kernel_rfl) (Fr.refl _ _) ?_
 simp only [inOrder,jD,jE,jF,jG]
 iterate 3 (refine wpG_pure fun K hK=>?_;go_simp;refine hK _ ?_;clear hK K)
 refine wpG_val (.pointer (some ⟨p.tb,0,none⟩)) (by first | rfl | go_simp) (fun X hX=>by have cc:=((b1.drew).fr0 hX).cell;go_simp) ?_
 simp only [Act.put,jA,jB,jC]
 iterate 1 (refine wpG_pure fun K hK=>?_;go_simp;refine hK _ ?_;clear hK K)
 refine wpG_val (.int .i64 c) (by first | rfl | go_simp) (fun X hX=>by have cc:=((B.drew).fr0 hX).cell;go_simp) ?_
 simp only [Act.put,jA,jB,jC]
 refine wpG_one fun K hK=>?_
 go_simp
 refine (kG _ hd).mono ?_
 rintro e w2 ⟨rfl,hf2⟩
 refine hK _ _ (hf2) ?_
 clear hK K
 refine wpG_one fun K hK=>?_
 go_simp
 refine (Writes_calls k x o _).mono ?_
 rintro e w3 ⟨rfl,hf3⟩
 refine hK _ _ (hf2.trans0 hf3) ?_
 clear hK K
 iterate 2 (refine wpG_pure fun K hK=>?_;go_simp;refine hK _ ?_;clear hK K)
 refine wpG_end ?_
 go_wp2
 go_ret
 exact ⟨ret_bool (by rw [Bool.not_and]),((hf.trans0 hd).trans0 hf2).trans0 hf3⟩
theorem iInside_calls (x l:Int) (w:World) (h:ImgW w ib p M) (hB:M.B≤3):Calls Tryz.prog 128 #[.pointer (some ⟨ib,0,none⟩),.int .i64 x,.int .i64 l] w fun e w'=>e=.returned (.int .i64 (insideI M x l))∧Fr [] w w':=by
 have b1:=h.blk
 have hd:Fr [] w w.drew:=(Fr.refl [] w).drew
 have kS:=iSize_calls w.drew (h.fr0 hd)
 have hlen:=h.tab.len
 have H1:Hid (l<0→insideI M x l=1):=hidIt (fun e=>by unfold insideI;rw [if_pos e])
 have H2:Hid (¬l<0→(x<0∨l > allI M∨x > allI M - l)→insideI M x l=121):=hidIt (fun e e2=>by unfold insideI;rw [if_neg e,if_pos e2])
 have H3:Hid (¬l<0→¬(x<0∨l > allI M∨x > allI M - l)→insideI M x l=0):=hidIt (fun e e2=>by unfold insideI;rw [if_neg e,if_neg e2])
 have hall:Hid (allI M=M.t.length*2 ^ M.B):=hidIt rfl
 have hbnd:allI M≤2048:=by
  unfold allI
  have:2 ^ M.B≤2 ^ 3:=Nat.pow_le_pow_right (by omega) hB
  have:M.t.length*2 ^ M.B≤256*8:=Nat.mul_le_mul hlen this
  omega
 have hAB:Hid (allI M=M.t.length*2 ^ M.B):=hidIt rfl
 clear h hd
 generalize insideI M x l=res at *
 generalize allI M=A at *
 generalize M.B=B at *
 generalize M.t.length=len at *
 have hB':B=0∨B=1∨B=2∨B=3:=by omega
 clear hB hall
 go_enter Tryz.func128,Tryz.ntmps128
 go_wp2_with fail
 have hm:(len:Int)*2 ^ B=A:=by rw [hAB.out];push_cast;rfl
 refine wp_region_G (Fr [] w.drew) [(true,0),(true,2),(true,3),(true,4),(true,5),(false,1),(true,6),(true,7)] (by as_aux_lemma=>kernel_rfl) (by as_aux_lemma=>kernel_rfl) (Fr.refl _ _) ?_
 simp only [inOrder,jD,jE,jF,jG]
 iterate 4 (refine wpG_pure fun K hK=>?_;go_simp;refine hK _ ?_;clear hK K)
 refine wpG_val (.int .i64 (B:Int)) (by first | rfl | go_simp) (fun X hX=>by have cc:=((b1.drew).fr0 hX).cell;go_simp) ?_
 simp only [Act.put,jA,jB,jC]
 refine wpG_one fun K hK=>?_
 go_simp
 refine (kS).mono ?_
 rintro e w1 ⟨rfl,rfl⟩
 refine hK _ _ (Fr.refl _ _) ?_
 clear hK K
 have hw:IntKind.i64.wrap (A:Int)=(A:Int):=IntWalk.i64_in _ (by omega)
 iterate 2 (refine wpG_pure fun K hK=>?_;go_simp;refine hK _ ?_;clear hK K)
 refine wpG_end ?_
 have hF:=(Fr.refl [] w).drew
 clear hm hw kS b1 hAB hB'
 by_cases h1:l<0
 ·have e:=hidIt (H1.out h1)
  clear H1 H2 H3
  go_wp2
  go_ret
  exact ⟨ret_int e.out.symm,hF⟩
 ·by_cases h2:x<0
  ·have e:=hidIt (H2.out (by omega) (.inl h2))
   clear H1 H2 H3
   go_wp2
   go_ret
   exact ⟨ret_int e.out.symm,hF⟩
  ·by_cases h3:l > A
   ·have e:=hidIt (H2.out (by omega) (.inr (.inl h3)))
    have h3':(A:Int)<l:=h3
    clear H1 H2 H3
    go_wp2
    go_ret
    exact ⟨ret_int e.out.symm,hF⟩
   ·have h3':¬(A:Int)<l:=h3
    have hsub:IntKind.i64.wrap ((A:Int) - l)=(A:Int) - l:=IntWalk.i64_in _ (by omega)
    by_cases h4:x > A - l
    ·have e:=hidIt (H2.out (by omega) (.inr (.inr h4)))
     have h4':(A:Int) - l<x:=h4
     clear H1 H2 H3
     go_wp2
     go_ret
     exact ⟨ret_int e.out.symm,hF⟩
    ·have e:=hidIt (H3.out (by omega) (by rintro (h | h | h);exact h2 h;exact h3 h;exact h4 h))
     have h4':¬(A:Int) - l<x:=h4
     clear H1 H2 H3
     go_wp2
     go_ret
     exact ⟨ret_int e.out.symm,hF⟩
end
end Go.Proofs.YtffnihooekbcnaaGreat
