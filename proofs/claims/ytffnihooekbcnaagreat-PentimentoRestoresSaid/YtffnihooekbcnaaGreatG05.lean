/-
  The operations on slots and on groups of slots, as equations on their runs: for the walks of package table.
-/
import Derived.Test.YtffnihooekbcnaaGreatG00
import Derived.Test.YtffnihooekbcnaaGreatG01
import Derived.ChangeKeysEq
import Derived.Deep.RegionWith
import Derived.OrdersHeld
import Derived.OrdersIn
import Derived.RangeFuncCalls
import Derived.TacticsIn
set_option maxRecDepth 100000
set_option maxHeartbeats 6400000
namespace Go.Proofs.YtffnihooekbcnaaGreat
open Go.RowKit Go.Maps
theorem follows:Tryz.prog.follows .mixedOrders=true:=by kernel_rfl
def gC (g:List Slt):Array Value:=(g.flatMap slotC).toArray
theorem gC_size (g:List Slt):(gC g).size=g.length*3:=by
 simp only [gC,List.size_toArray]
 induction g with
 | nil=>rfl
 | cons s g ih=>simp [ih];omega
theorem flat_slot (g:List Slt):∀(i j:Nat),j<3→(g.flatMap slotC)[i*3+j]? = (g[i]?).bind (fun s=>(slotC s)[j]?):=by
 induction g with
 | nil=>intro i j _;simp
 | cons s g ih =>
   intro i j hj
   rw [List.flatMap_cons]
   cases i with
   | zero =>
     rw [List.getElem?_append_left (by simp;omega)]
     simp
   | succ i =>
     rw [List.getElem?_append_right (by simp;omega)]
     have:(i+1)*3+j - (slotC s).length=i*3+j:=by simp;omega
     rw [this,ih i j hj]
     simp
theorem gC_at (g:List Slt) (i j:Nat) (hj:j<3):(gC g)[i*3+j]? = (g[i]?).bind (fun s=>(slotC s)[j]?):=by
 simpa [gC] using flat_slot g i j hj
theorem gC_extract (g:List Slt) (i:Nat) (hi:i<g.length):(gC g).extract (i*3) (i*3+3)=#[.int .i64 (g.getD i zS).1,.int .i64 (g.getD i zS).2.1,.bool (g.getD i zS).2.2]:=by
 have hs:=gC_size g
 have hg:g[i]? = some (g.getD i zS):=by rw [List.getD_eq_getElem?_getD,List.getElem?_eq_getElem hi];rfl
 apply Array.ext
 ·simp [hs];omega
 ·intro j h1 h2
  have hj:j<3:=by simpa using h2
  have:=gC_at g i j hj
  rw [hg] at this
  rw [Array.getElem_extract,←Option.some_inj,←Array.getElem?_eq_getElem,this]
  match j,hj with
  | 0,_=>rfl
  | 1,_=>rfl
  | 2,_=>rfl
theorem fieldsSlot (f : Array Field) (h : f = #[{ name := "Kind", type := 3, offset := 0, embedded := false, tag := "", pkgPath := "", byteOffset := 0 }, { name := "Host", type := 3, offset := 1, embedded := false, tag := "", pkgPath := "", byteOffset := 8 },{ name := "Own", type := 4, offset := 2, embedded := false, tag := "", pkgPath := "", byteOffset := 16 }])
 (d:Nat) (a b:Slt) (w:World):(Op.eqFields (d+1) (slotC a).toArray (slotC b).toArray f.toList).run Tryz.prog w=.ok (sEq a b) w:=by
 obtain ⟨a1,a2,a3⟩:=a
 obtain ⟨b1,b2,b3⟩:=b
 rw [h]
 unfold sEq
 by_cases h1:a1=b1 <;> by_cases h2:a2=b2 <;> cases a3 <;> cases b3 <;> simp [Op.eqFields,go_sem,h1,h2,Tryz.underlying3,Tryz.underlying4]
theorem equalSlot (d:Nat) (a b:Int) (c:Bool) (a' b':Int) (c':Bool) (w:World) :
 (Op.equalIn (d+2) 216 (.agg #[.int .i64 a,.int .i64 b,.bool c]) (.agg #[.int .i64 a',.int .i64 b',.bool c'])).run Tryz.prog w=.ok (sEq (a,b,c) (a',b',c')) w:=by
 rw [run_equalIn_struct (P:=Tryz.prog) w (d+1) 216 _ _ (by kernel_rfl) (by kernel_rfl)]
 exact fieldsSlot _ (by kernel_rfl) d (a,b,c) (a',b',c') w
theorem equalSlot0 (a b:Int) (c:Bool) (a' b':Int) (c':Bool) (w:World) :
 (Op.equalIn 10000 216 (.agg #[.int .i64 a,.int .i64 b,.bool c]) (.agg #[.int .i64 a',.int .i64 b',.bool c'])).run Tryz.prog w=.ok (sEq (a,b,c) (a',b',c')) w:=equalSlot 9998 a b c a' b' c' w
theorem fieldKind (p q r:Value) (w:World):(Instr.field 216 (.agg #[p,q,r]) 0).run Tryz.prog w=.ok p w:=by kernel_rfl
theorem part_slot (g:List Slt) (i:Nat) (hi:i<g.length) (w:World):(part 216 (gC g) (i*3)).run Tryz.prog w=.ok (slotV (g.getD i zS)) w:=by
 have h1:(isAgg 216).run Tryz.prog w=.ok true w:=by kernel_rfl
 have h2:(sizeOf 216).run Tryz.prog w=.ok 3 w:=by kernel_rfl
 simp only [part,Sem.run_bind,h1,h2,Result.andThen_ok,if_true,Sem.run_pure,gC_extract g i hi]
theorem zeroGroup (w:World):(zeroValue 265).run Tryz.prog w=.ok (.agg (gC (zG))) w:=by kernel_rfl
theorem buildGroup (w:World):(Instr.build 265 #[]).run Tryz.prog w=.ok (.agg (gC (zG))) w:=by kernel_rfl
theorem indexGroup (g:List Slt) (hg:g.length=16) (i:Int) (h0:0≤i) (h1:i<16) (w:World) :
 (Instr.index 265 (.agg (gC g)) (.int .i64 i)).run Tryz.prog w=.ok (slotV (g.getD i.toNat zS)) w:=by
 have h2:(sizeOf 216).run Tryz.prog w=.ok 3 w:=by kernel_rfl
 have hb:0≤i∧i<((16:Nat):Int):=⟨h0,h1⟩
 simp only [Instr.index,asIntOf,Sem.run_bind,Sem.run_pure,Result.andThen_ok,run_underlying Tryz.underlying265,if_pos hb,h2,part_slot g i.toNat (by omega)]
theorem slt_eta (s:Slt):(s.1,s.2.1,s.2.2)=s:=rfl
theorem infoSlot:(Tryz.prog.info? 216).map (fun i=>(i.zero,i.size,i.bytes))=some (some (.agg #[.int .i64 0,.int .i64 0,.bool false]),3,24):=by kernel_rfl
theorem eqItems_groups (d:Nat) (g g':List Slt) (h:g.length=g'.length) (w:World):∀(is:List Nat),(∀i∈is,i<g.length) →
 (Op.eqItems (d+2) 216 3 (gC g) (gC g') is).run Tryz.prog w=.ok (is.all fun i=>sEq (g.getD i zS) (g'.getD i zS)) w
 | [],_=>by simp [Op.eqItems]
 | i :: is,hi=>by
   have hi0:=hi i (by simp)
   simp only [Op.eqItems,Sem.run_bind,part_slot g i hi0,part_slot g' i (by omega),Result.andThen_ok,equalSlot d,slt_eta,List.all_cons]
   cases hs:sEq (g.getD i zS) (g'.getD i zS) with
   | false=>simp only [Bool.not_false,if_true,Sem.run_pure,Bool.false_and]
   | true =>
     simp only [Bool.not_true,Bool.false_eq_true,if_false,Bool.true_and]
     exact eqItems_groups d g g' h w is (fun j hj=>hi j (by simp [hj]))
theorem equalGroup' (d:Nat) (g g':List Slt) (hg:g.length=16) (hg':g'.length=16) (w:World) :
 (Op.equalIn (d+3) 265 (.agg (gC g)) (.agg (gC g'))).run Tryz.prog w=.ok (decide (g=g')) w:=by
 obtain ⟨i,hi,_,_,_⟩:=info_parts infoSlot
 have hc:Tryz.prog.cellsOf 216=3:=by kernel_rfl
 rw [run_equalIn_array (P:=Tryz.prog) w (d+2) (gC g) (gC g') Tryz.underlying265 hi,hc,eqItems_groups d g g' (by omega) w (List.range 16) (fun j hj=>by rw [List.mem_range] at hj;omega)]
 have he:((List.range 16).all fun i=>sEq (g.getD i zS) (g'.getD i zS))=decide (g=g'):=?_
 ·rw [he]
 rw [Bool.eq_iff_iff,List.all_eq_true,decide_eq_true_iff]
 constructor
 ·intro h
  apply List.ext_getElem (by omega)
  intro j h1 h2
  have:=(sEq_iff _ _).1 (h j (by rw [List.mem_range];omega))
  rw [List.getD_eq_getElem?_getD,List.getElem?_eq_getElem h1,List.getD_eq_getElem?_getD,List.getElem?_eq_getElem h2] at this
  exact this
 ·rintro rfl j _
  exact sEq_self _
theorem equalGroup (g g':List Slt) (hg:g.length=16) (hg':g'.length=16) (w:World) :
 (Op.equalIn 10000 265 (.agg (gC g)) (.agg (gC g'))).run Tryz.prog w=.ok (decide (g=g')) w:=equalGroup' 9997 g g' hg hg' w
theorem guardGroup (op:BinOp) (x y:Operand) (a b:Array Value) (w:World):(eqGuard op 265 x y (.agg a) (.agg b)).run Tryz.prog w=.ok () w:=run_eqGuard_agg w op _ x y a b (by kernel_rfl)
theorem setRow_new (w:World) (cs cs':Array Value) (t:TypeId):(w.alloc (.cells cs t)).setRow w.heap.size cs'=w.alloc (.cells cs' t):=by
 unfold World.setRow World.alloc
 congr 1
 apply Array.ext_getElem?
 intro i
 rw [Array.getElem?_modify,Array.getElem?_push,Array.getElem?_push]
 by_cases h:w.heap.size=i
 ·subst h;simp
 ·rw [if_neg h]
  by_cases h2:i=w.heap.size
  ·exact absurd h2.symm h
  ·rw [if_neg h2,if_neg h2]
theorem storeGroup (g:List Slt) (hg:g.length=16) (n:Nat) (cs:Array Value) (hcs:cs.size=48) (t:TypeId) (w:World) (hn:n=w.heap.size) :
 (Instr.storeAt 265 (.pointer (some ⟨n,0,none⟩)) (.agg (gC g))).run Tryz.prog (w.alloc (.cells cs t))=.ok () (w.alloc (.cells (gC g) t)):=by
 subst hn
 have h2:∀w,(sizeOf 265).run Tryz.prog w=.ok 48 w:=fun w=>by kernel_rfl
 have hs:(gC g).size=48:=by rw [gC_size,hg]
 have hw:(w.alloc (.cells cs t)).heap[w.heap.size]? = some (.cells cs t (0,0)):=heap_alloc_new w _
 have hst:=run_storeCells_at Tryz.prog w.heap.size 0 t (gC g).toList 0 cs (w.alloc (.cells cs t)) hw (by simp [hs,hcs]) (by
  intro v hv
  simp only [gC] at hv
  rw [List.mem_flatMap] at hv
  obtain ⟨s,_,hs⟩:=hv
  simp at hs
  rcases hs with rfl | rfl | rfl <;> rfl)
 simp only [Instr.storeAt,Instr.sureAddr,storeVar,Sem.run_bind,Sem.run_pure,Result.andThen_ok,h2]
 rw [if_neg (by simp [Value.cells,hs])]
 simp only [Value.cells]
 refine hst.trans ?_
 congr 1
 rw [setRow_new]
 congr 2
 rw [List.drop_eq_nil_of_le (by simp [hs,hcs])]
 simp
theorem loadGroup (g:List Slt) (hg:g.length=16) (n:Nat) (t:TypeId) (w:World) (hn:n=w.heap.size) :
 (Instr.loadAt 265 (.pointer (some ⟨n,0,none⟩))).run Tryz.prog (w.alloc (.cells (gC g) t))=.ok (.agg (gC g)) (w.alloc (.cells (gC g) t)):=by
 subst hn
 simp only [Instr.loadAt,Instr.sureAddr,Sem.run_bind,Sem.run_pure,Result.andThen_ok]
 refine run_loadVar_row _ w.heap.size t 265 (gC g) (0,0) _ (heap_alloc_new w _) Tryz.underlying265 rfl ?_
 rw [gC_size,hg]
 kernel_rfl
theorem allocGroup (z:Value) (w:World):(Instr.alloc 265 true z).run Tryz.prog w=.ok (.pointer (some ⟨w.heap.size,0,none⟩)) (w.alloc (.cells (gC (zG)) 265)):=by
 cases z <;> simp only [Instr.alloc,Sem.run_bind,zeroGroup,Result.andThen_ok,newVar,newRow,Value.cells,run_newObj_alloc,Sem.run_pure]
section
variable {ops:Array Oper} {rest:List Oper} {o:Oper} {a:Act} {Q:Exit→Act→World→Prop}
theorem wpList_allocGroup {w:World} (hg:o.guard=none) (ho:o.op=.alloc 265)
 (h:wpList Tryz.prog ops Q rest (a.put o.dst (.pointer (some ⟨w.heap.size,0,none⟩))) (w.alloc (.cells (gC (zG)) 265))):wpList Tryz.prog ops Q (o :: rest) a w :=
 wpList_plain hg fun K hK=>by
  unfold Oper.wp execOp
  simp only [ho,Sem.run_bind,allocGroup,Result.andThen_ok,Sem.run_pure]
  exact hK _ _ h
theorem wpList_buildGroup {w:World} (hg:o.guard=none) (ho:o.op=.build 265 #[])
 (h:wpList Tryz.prog ops Q rest (a.put o.dst (.agg (gC (zG)))) w):wpList Tryz.prog ops Q (o :: rest) a w :=
 wpList_plain hg fun K hK=>by
  unfold Oper.wp execOp
  simp only [ho,List.map_toArray,List.map_nil,Sem.run_bind,buildGroup,Result.andThen_ok,Sem.run_pure]
  exact hK _ _ h
theorem wpList_storeGroup {w:World} {cs:Array Value} {t:TypeId} (hg:o.guard=none) (x y:Operand) (ho:o.op=.store 265 x y) (n:Nat) (hx:a.eval x=.pointer (some ⟨n,0,none⟩)) (g:List Slt) (hy:a.eval y=.agg (gC g))
 (hn:n=w.heap.size) (hl:g.length=16) (hcs:cs.size=48) (h:wpList Tryz.prog ops Q rest (a.put o.dst undef) (w.alloc (.cells (gC g) t))):wpList Tryz.prog ops Q (o :: rest) a (w.alloc (.cells cs t)) :=
 wpList_plain hg fun K hK=>by
  unfold Oper.wp execOp
  simp only [ho,hx,hy,Sem.run_bind,storeGroup g hl n cs hcs t w hn,Result.andThen_ok,Sem.run_pure]
  exact hK _ _ h
theorem wpList_loadGroup {w:World} {g:List Slt} {t:TypeId} (hg:o.guard=none) (x:Operand) (ho:o.op=.load 265 x) (n:Nat) (hx:a.eval x=.pointer (some ⟨n,0,none⟩))
 (hn:n=w.heap.size) (hl:g.length=16) (h:wpList Tryz.prog ops Q rest (a.put o.dst (.agg (gC g))) (w.alloc (.cells (gC g) t))):wpList Tryz.prog ops Q (o :: rest) a (w.alloc (.cells (gC g) t)) :=
 wpList_plain hg fun K hK=>by
  unfold Oper.wp execOp
  simp only [ho,hx,Sem.run_bind,loadGroup g hl n t w hn,Result.andThen_ok,Sem.run_pure]
  exact hK _ _ h
end
theorem wpStill_loadGroup {ops:Array Oper} {w:World} {Q:Act→Prop} {a:Act} {o:Oper} {rest:List Oper} {g:List Slt} {t:TypeId} (hg:o.guard=none) (x:Operand) (ho:o.op=.load 265 x) (n:Nat)
 (hx:a.eval x=.pointer (some ⟨n,0,none⟩)) (hn:n=w.heap.size) (hl:g.length=16) (h:wpStill Tryz.prog ops (w.alloc (.cells (gC g) t)).drew Q rest (a.put o.dst (.agg (gC g)))):wpStill Tryz.prog ops (w.alloc (.cells (gC g) t)).drew Q (o :: rest) a :=
 wpStill_value hg _ (by
  unfold execOp
  have:=loadGroup g hl n t w.drew hn
  simp only [ho,hx,Sem.run_bind]
  rw [show (w.alloc (.cells (gC g) t)).drew=w.drew.alloc (.cells (gC g) t) from rfl,this]
  rfl) h
theorem flat_take (g:List Slt):∀i,(g.flatMap slotC).take (i*3)=(g.take i).flatMap slotC:=by
 induction g with
 | nil=>intro i;simp
 | cons s g ih =>
   intro i
   cases i with
   | zero=>simp
   | succ i =>
     rw [List.flatMap_cons,List.take_succ_cons,List.flatMap_cons,←ih i]
     have:(i+1)*3=(slotC s).length+i*3:=by simp;omega
     rw [this,List.take_length_add_append]
theorem flat_drop (g:List Slt):∀i,(g.flatMap slotC).drop (i*3)=(g.drop i).flatMap slotC:=by
 induction g with
 | nil=>intro i;simp
 | cons s g ih =>
   intro i
   cases i with
   | zero=>simp
   | succ i =>
     rw [List.flatMap_cons,List.drop_succ_cons,←ih i]
     have:(i+1)*3=(slotC s).length+i*3:=by simp;omega
     rw [this,List.drop_length_add_append]
theorem flat_set (g:List Slt) (i:Nat) (hi:i<g.length) (s:Slt):(g.set i s).flatMap slotC=(g.flatMap slotC).take (i*3)++slotC s++(g.flatMap slotC).drop (i*3+3):=by
 have e:i*3+3=(i+1)*3:=by omega
 rw [e,flat_take,flat_drop,List.set_eq_take_append_cons_drop,if_pos hi]
 simp
theorem storeSlot (g:List Slt) (i:Nat) (hi:i<g.length) (n:Nat) (k h:Int) (o:Bool) (t:TypeId) (w:World) (hn:n=w.heap.size) :
 (Instr.storeAt 216 (.pointer (some ⟨n,i*3,none⟩)) (.agg #[.int .i64 k,.int .i64 h,.bool o])).run Tryz.prog (w.alloc (.cells (gC g) t))=.ok () (w.alloc (.cells (gC (g.set i (k,h,o))) t)):=by
 subst hn
 have h2:∀w,(sizeOf 216).run Tryz.prog w=.ok 3 w:=fun w=>by kernel_rfl
 have hw:(w.alloc (.cells (gC g) t)).heap[w.heap.size]? = some (.cells (gC g) t (0,0)):=heap_alloc_new w _
 have hst:=run_storeCells_at Tryz.prog w.heap.size (i*3) t (slotC (k,h,o)) 0 (gC g) (w.alloc (.cells (gC g) t)) hw (by simp [gC_size];omega) (by
  intro v hv
  simp at hv
  rcases hv with rfl | rfl | rfl <;> rfl)
 simp only [Instr.storeAt,Instr.sureAddr,storeVar,Sem.run_bind,Sem.run_pure,Result.andThen_ok,h2]
 rw [if_neg (by simp [Value.cells])]
 simp only [Value.cells]
 refine hst.trans ?_
 rw [setRow_new]
 congr 3
 rw [show gC (g.set i (k,h,o))=((g.set i (k,h,o)).flatMap slotC).toArray from rfl,flat_set g i hi]
 simp [gC]
theorem wpList_storeSlot {ops:Array Oper} {rest:List Oper} {o:Oper} {a:Act} {Q:Exit→Act→World→Prop} {w:World} {g:List Slt} {t:TypeId} (hg:o.guard=none) (x y:Operand) (ho:o.op=.store 216 x y)
 (n m:Nat) (hx:a.eval x=.pointer (some ⟨n,m,none⟩)) (i:Nat) (hm:m=i*3) (k h:Int) (b:Bool) (hy:a.eval y=.agg #[.int .i64 k,.int .i64 h,.bool b])
 (hn:n=w.heap.size) (hi:i<g.length) (hK:wpList Tryz.prog ops Q rest (a.put o.dst undef) (w.alloc (.cells (gC (g.set i (k,h,b))) t))):wpList Tryz.prog ops Q (o :: rest) a (w.alloc (.cells (gC g) t)) :=
 wpList_plain hg fun K hK'=>by
  subst hm
  unfold Oper.wp execOp
  simp only [ho,hx,hy,Sem.run_bind,storeSlot g i hi n k h b t w hn,Result.andThen_ok,Sem.run_pure]
  exact hK' _ _ hK
attribute [irreducible] gC
def tabM (l:List Slt):Value→Option Value
 | .int .i64 k=>if 0≤k∧k<16∧keptG l k.toNat=true then some (.agg (gC (grp l k.toNat))) else none
 | _=>none
theorem tabM_int (l:List Slt) (k:Int):tabM l (.int .i64 k)=if 0≤k∧k<16∧keptG l k.toNat=true then some (.agg (gC (grp l k.toNat))) else none:=rfl
theorem tabM_getD {l:List Slt} (hr:∀s∈l,rightS s=true) {k:Int} (h0:0≤k) (h1:k<16):(tabM l (.int .i64 k)).getD (.agg (gC (zG)))=.agg (gC (grp l k.toNat)):=by
 rw [tabM_int]
 cases hk:keptG l k.toNat with
 | true=>simp [h0,h1]
 | false=>simp [kept_false hr hk]
structure TabW (w:World) (tb mb:Nat) (l:List Slt):Prop where
 blk:Blk w tb [.int .i64 l.length,.map (some mb)] 253
 len:l.length≤256
 right:∀s∈l,rightS s=true
 map:∃es clock,mapAt w mb=some (es,clock)∧IsM Tryz.prog 3 es clock (tabM l)
theorem TabW.lt {w:World} {tb mb:Nat} {l:List Slt} (h:TabW w tb mb l):tb<w.heap.size∧mb<w.heap.size:=by
 obtain ⟨es,c,hm,_⟩:=h.map
 exact ⟨h.blk.lt,mapAt_lt hm⟩
theorem TabW.ne {w:World} {tb mb:Nat} {l:List Slt} (h:TabW w tb mb l):tb≠mb:=by
 rintro rfl
 obtain ⟨es,c,hm,_⟩:=h.map
 have:=(mapAt_some.1 hm).symm.trans h.blk
 cases this
theorem TabW.fr {L:List Nat} {w w':World} {tb mb:Nat} {l:List Slt} (h:TabW w tb mb l) (hf:Fr L w w') (h1:tb ∉ L) (h2:mb ∉ L):TabW w' tb mb l:=by
 obtain ⟨es,c,hm,hi⟩:=h.map
 exact ⟨h.blk.fr hf h1,h.len,h.right,es,c,mapAt_fr hm hf h2,hi⟩
theorem TabW.fr0 {w w':World} {tb mb:Nat} {l:List Slt} (h:TabW w tb mb l) (hf:Fr [] w w'):TabW w' tb mb l:=h.fr hf (by simp) (by simp)
theorem keyInt:Keyed Tryz.prog 3:=int_keyed Tryz.underlying3
theorem keyI {k:Int} (h0:0≤k) (h1:k<16):keyOf Tryz.prog 3 (.int .i64 k)=some (.int .i64 k):=keyOf_int_mk Tryz.underlying3 (by simp [Lit.wf,IntKind.min,IntKind.max,IntKind.signed,IntKind.bits];omega)
attribute [local go_sem] mapAt_alloc mapAt_setCell mapAt_drew mapAt_drewN
attribute [local go_sem high] equalSlot0 equalGroup guardGroup buildGroup zeroGroup gC_size grp_length zG_length
def okSize (n:Int):Bool:=decide (0≤n) && decide (n≤256)
theorem right_calls (s:Int) (w:World):Calls Tryz.prog 173 #[.int .i64 s] w fun e w'=>e=.returned (.bool (okSize s))∧w=w':=by
 have H1:0≤s→Hid (okSize s=decide (s≤256)):=fun h=>by simp [Hid,okSize,h]
 have H2:s<0→Hid (okSize s=false):=fun h=>by simp [Hid,okSize];omega
 go_enter Tryz.func173,Tryz.ntmps173
 go_wp2
 all_goals go_ret
 ·exact ⟨ret_bool (H1 ‹_›).out.symm,rfl⟩
 ·exact ⟨ret_bool (H2 ‹_›).out.symm,rfl⟩
theorem right1 {k h:Int} {o:Bool} (h1:(k == 1)=true) (h2:0≤h):decide (h<512)=rightS (k,h,o):=by
 have:k=1:=by simpa using h1
 subst this
 simp [rightS,h2]
theorem right2 {k h:Int} {o:Bool} (h1:(k == 1)=true) (h2:h<0):false=rightS (k,h,o):=by
 have:k=1:=by simpa using h1
 subst this
 simp [rightS];omega
theorem right3 {k h:Int} {o:Bool} (h2:sEq (k,h,o) (0,0,false)=true):true=rightS (k,h,o):=by
 have:=(sEq_iff _ _).1 h2
 cases this
 rfl
theorem right4 {k h:Int} {o:Bool} (h1:(k == 1)=false) (h2:¬sEq (k,h,o) (0,0,false)=true):sEq (k,h,o) (2,0,false)=rightS (k,h,o):=by
 have hk:¬k=1:=by simpa using h1
 simp only [rightS,if_neg hk]
 rw [Bool.eq_iff_iff,sEq_iff]
 simp only [sEq_iff] at h2
 cases o <;> simp at h2 ⊢
 omega
theorem Right_calls (k h:Int) (o:Bool) (w:World):Calls Tryz.prog 204 #[.agg #[.int .i64 k,.int .i64 h,.bool o]] w fun e w'=>e=.returned (.bool (rightS (k,h,o)))∧Fr [] w w':=by
 go_enter Tryz.func204,Tryz.ntmps204
 go_wp2
 all_goals go_ret
 ·exact ⟨ret_bool (right1 ‹_› ‹_›),(Fr.refl _ _).alloc _⟩
 ·exact ⟨ret_bool (right2 ‹_› ‹_›),(Fr.refl _ _).alloc _⟩
 ·exact ⟨ret_bool (right3 ‹_›),(Fr.refl _ _).alloc _⟩
 ·exact ⟨ret_bool (right4 ‹_› ‹_›),(Fr.refl _ _).alloc _⟩
theorem Len_calls (tb mb:Nat) (l:List Slt) (w:World) (hT:TabW w tb mb l):Calls Tryz.prog 144 #[.pointer (some ⟨tb,0,none⟩)] w fun e w'=>e=.returned (.int .i64 l.length)∧w=w':=by
 have h0:w.cell? ⟨tb,0,none⟩=some (.int .i64 l.length):=hT.blk.cell 0
 go_enter Tryz.func144,Tryz.ntmps144
 go_wp2
 go_ret
 exact ⟨rfl,rfl⟩
theorem getD_parts (g:List Slt) (i:Nat) (hi:i<g.length):g[i].1=(g[i]?.getD zS).1∧g[i].2.1=(g[i]?.getD zS).2.1∧g[i].2.2=(g[i]?.getD zS).2.2:=by
 rw [List.getElem?_eq_getElem hi];exact ⟨rfl,rfl,rfl⟩
theorem Get_calls (tb mb:Nat) (l:List Slt) (c:Int) (w:World) (hT:TabW w tb mb l):Calls Tryz.prog 147 #[.pointer (some ⟨tb,0,none⟩),.int .i64 c] w fun e w'=>e=.returned (slotV (tget l c))∧Fr [] w w':=by
 have h0:w.cell? ⟨tb,0,none⟩=some (.int .i64 l.length):=hT.blk.cell 0
 have h1:w.cell? ⟨tb,1,none⟩=some (.map (some mb)):=hT.blk.cell 1
 have hlt:=hT.lt.1
 have hlm:=hT.lt.2
 have hlen:=hT.len
 obtain ⟨es,clock,hm,hi⟩:=hT.map
 have hlook:∀(k:Int) (W:World),0≤k→k<16→mapAt W mb=some (es,clock)→(Instr.lookup 251 (.map (some mb)) (.int .i64 k) false).run Tryz.prog W=.ok (.agg (gC (grp l k.toNat))) W:=fun k W a b hW=>by
  rw [run_lookup_isM Tryz.underlying251 keyInt hi false (keyI a b) W (zeroGroup W) hW,tabM_getD hT.right a b];rfl
 by_cases hc:0≤c∧c<l.length
 ·obtain ⟨hc0,hc1⟩:=hc
  have hd0:0≤c / 16:=by omega
  have hd1:c / 16<16:=by omega
  have hr0:0≤c % 16:=by omega
  have hr1:c % 16<16:=by omega
  have hix:=fun W=>indexGroup (grp l (c / 16).toNat) (grp_length _ _) (c % 16) hr0 hr1 W
  go_enter Tryz.func147,Tryz.ntmps147
  go_wp2
  go_wp2
  have hg:(grp l (c / 16).toNat).getD (c % 16).toNat zS=tget l c:=grp_tget hc0
  exact bodyPost_ret (v:=slotV ((grp l (c / 16).toNat).getD (c % 16).toNat zS)) (by simp [results,Tryz.results147,go_sem];exact getD_parts _ _ (by rw [grp_length];omega)) rfl ⟨by rw [hg],(Fr.refl _ _).alloc _⟩
 ·have hg:tget l c=zS:=tget_out (by omega)
  by_cases hc0:c<0
  ·go_enter Tryz.func147,Tryz.ntmps147
   go_wp2
   exact bodyPost_ret (v:=slotV zS) (by simp [results,Tryz.results147,go_sem,zS]) rfl ⟨by first | rfl | rw [hg],(Fr.refl _ _).alloc _⟩
  ·have hc1:(l.length:Int)≤c:=by omega
   go_enter Tryz.func147,Tryz.ntmps147
   go_wp2
   exact bodyPost_ret (v:=slotV zS) (by simp [results,Tryz.results147,go_sem,zS]) rfl ⟨by first | rfl | rw [hg],(Fr.refl _ _).alloc _⟩
theorem tabM_empty (n:Nat):tabM (List.replicate n zS)=fun _=>none:=by
 funext x
 cases x with
 | int q k =>
   cases q with
   | i64 =>
     rw [tabM_int,if_neg]
     rintro ⟨_,_,h⟩
     have hr:∀s∈List.replicate n zS,rightS s=true:=fun s hs=>by rw [List.eq_of_mem_replicate hs];rfl
     refine (kept_iff hr).1 h ?_
     rw [zG,List.eq_replicate_iff]
     refine ⟨grp_length _ _,fun s hs=>?_⟩
     obtain ⟨i,_,rfl⟩:=List.mem_map.1 hs
     rw [List.getD_eq_getElem?_getD,List.getElem?_replicate]
     split <;> rfl
   | _=>rfl
 | _=>rfl
theorem TabW_new (n:Int) (w:World) (h:0≤n∧n≤256):TabW ((w.alloc (.map #[] 0)).alloc (.cells #[.int .i64 n,.map (some w.heap.size)] 253)) (w.heap.size+1) w.heap.size (List.replicate n.toNat zS):=by
 refine ⟨?_,by simp;omega,fun s hs=>by rw [List.eq_of_mem_replicate hs];rfl,#[],0,?_,?_⟩
 ·have:=Blk.new (w.alloc (.map #[] 0)) [.int .i64 n,.map (some w.heap.size)] 253
  rw [World.size_alloc] at this
  have e:((List.replicate n.toNat zS).length:Int)=n:=by simp;omega
  rw [e]
  exact this
 ·rw [mapAt_some,Below.heap_alloc _ _ _ (by simp)]
  exact heap_alloc_new w _
 ·rw [tabM_empty];exact IsM.empty
theorem New_yes (n:Int) (w:World) (h:okSize n=true):Calls Tryz.prog 126 #[.int .i64 n] w fun e w'=>∃tb mb,e=.returned (.tuple #[.pointer (some ⟨tb,0,none⟩),.int .i64 0])∧w.heap.size≤tb∧w.heap.size≤mb∧TabW w' tb mb (List.replicate n.toNat zS)∧Fr [] w w':=by
 have hmm:=@run_makeMap Tryz.prog
 go_enter Tryz.func126,Tryz.ntmps126
 go_wp2_with (go_at_call 173;refine (right_calls _ _).mono ?_;rintro e w' ⟨rfl,rfl⟩)
 go_ret2
 have hn:0≤n∧n≤256:=by simpa [okSize] using h
 exact ⟨w.heap.size+1,w.heap.size,rfl,by omega,Nat.le_refl _,TabW_new n w hn,((Fr.refl _ _).alloc _).alloc _⟩
theorem tabM_set {l:List Slt} {c:Nat} (s:Slt) (hc:c<l.length) (hlen:l.length≤256) :
 tabM (l.set c s)=upd (tabM l) (.int .i64 ((c:Int) / 16)) (if keptG (l.set c s) (c / 16)=true then some (.agg (gC (grp (l.set c s) (c / 16)))) else none):=by
 funext x
 by_cases hx:x=.int .i64 ((c:Int) / 16)
 ·subst hx
  rw [upd_same,tabM_int]
  have e:((c:Int) / 16).toNat=c / 16:=by omega
  rw [e]
  by_cases hk:keptG (l.set c s) (c / 16)=true
  ·rw [if_pos ⟨by omega,by omega,hk⟩,if_pos hk]
  ·rw [if_neg (fun h=>hk h.2.2),if_neg hk]
 ·rw [upd_other _ _ hx]
  cases x with
  | int q k =>
    cases q with
    | i64 =>
      rw [tabM_int,tabM_int]
      by_cases hk:0≤k
      ·have hne:k.toNat≠c / 16:=fun e=>hx (by congr 1;omega)
       rw [kept_set_other l c _ s hc hne,grp_set_other l c _ s hc hne]
      ·rw [if_neg (fun h=>hk h.1),if_neg (fun h=>hk h.1)]
    | _=>rfl
  | _=>rfl
theorem TabW_set {w w':World} {tb mb:Nat} {l:List Slt} {c:Nat} {s:Slt} (hT:TabW w tb mb l) (hc:c<l.length) (hs:rightS s=true) (hf:Fr [mb] w w') {es:Array MapEntry} {clock:Nat} {v:Option Value}
 (hm:mapAt w' mb=some (es,clock)) (hi:IsM Tryz.prog 3 es clock (upd (tabM l) (.int .i64 ((c:Int) / 16)) v))
 (hv:v=if (grp l (c / 16)).set (c % 16) s=zG then none else some (.agg (gC ((grp l (c / 16)).set (c % 16) s)))):TabW w' tb mb (l.set c s):=by
 have hr:∀x∈l.set c s,rightS x=true:=by
  intro x hx
  rcases List.mem_or_eq_of_mem_set hx with hx | rfl
  ·exact hT.right x hx
  ·exact hs
 refine ⟨?_,by simpa using hT.len,hr,es,clock,hm,?_⟩
 ·rw [List.length_set]
  exact hT.blk.fr hf (by have:=hT.ne;simp;exact this)
 ·rw [tabM_set s hc hT.len]
  have:v=if keptG (l.set c s) (c / 16)=true then some (.agg (gC (grp (l.set c s) (c / 16)))) else none:=by
   rw [hv,←grp_set_same l c s hc]
   by_cases hz:grp (l.set c s) (c / 16)=zG
   ·rw [if_pos hz,if_neg (fun h=>(kept_iff hr).1 h hz)]
   ·rw [if_neg hz,if_pos ((kept_iff hr).2 hz)]
  rw [←this]
  exact hi
theorem put_calls (tb mb:Nat) (l:List Slt) (c:Nat) (k h:Int) (o:Bool) (w:World) (hT:TabW w tb mb l) (hc:c<l.length) (hs:rightS (k,h,o)=true) :
 Calls Tryz.prog 205 #[.pointer (some ⟨tb,0,none⟩),.int .i64 (c:Int),.agg #[.int .i64 k,.int .i64 h,.bool o]] w fun e w'=>(∃v,e=.returned v)∧TabW w' tb mb (l.set c (k,h,o))∧Fr [mb] w w':=by
 have h0:w.cell? ⟨tb,0,none⟩=some (.int .i64 l.length):=hT.blk.cell 0
 have h1:w.cell? ⟨tb,1,none⟩=some (.map (some mb)):=hT.blk.cell 1
 have hlt:=hT.lt.1
 have hlm:=hT.lt.2
 have hlen:=hT.len
 obtain ⟨es,clock,hm,hi⟩:=hT.map
 have hlook:∀(k:Int) (W:World),0≤k→k<16→mapAt W mb=some (es,clock)→(Instr.lookup 251 (.map (some mb)) (.int .i64 k) false).run Tryz.prog W=.ok (.agg (gC (grp l k.toNat))) W:=fun k W a b hW=>by
  rw [run_lookup_isM Tryz.underlying251 keyInt hi false (keyI a b) W (zeroGroup W) hW,tabM_getD hT.right a b];rfl
 have hd0:(0:Int)≤c / 16:=by omega
 have hd1:(c:Int) / 16<16:=by omega
 have hr0:(0:Int)≤c % 16:=by omega
 have hr1:(c:Int) % 16<16:=by omega
 have hl1:((grp l (c / 16)).set (c % 16) (k,h,o)).length=16:=by simp [grp_length]
 by_cases hz:(grp l (c / 16)).set (c % 16) (k,h,o)=zG
 ·have hzd:decide ((grp l (c / 16)).set (c % 16) (k,h,o)=zG)=true:=by simp [hz]
  have Hz:=hidIt hz
  clear hz
  go_enter Tryz.func205,Tryz.ntmps205
  go_wp2_with (first | (refine wpList_allocGroup rfl rfl ?_) | (refine wpList_buildGroup rfl rfl ?_) | (refine wpList_storeGroup rfl _ _ rfl _ rfl _ rfl (by simp) (grp_length _ _) (by simp [gC_size,zG_length]) ?_) | (refine wpList_storeSlot rfl _ _ rfl _ _ rfl (c % 16) rfl _ _ _ rfl (by simp) (by simp [grp_length];omega) ?_) | (refine wpList_loadGroup rfl _ rfl _ rfl (by simp) (by simp [grp_length]) ?_) | (refine wpList_delete_isM rfl _ _ 251 3 rfl Tryz.underlying251 keyInt hi mb rfl _ rfl (keyI hd0 hd1) (by rw [mapAt_alloc _ (by simp;omega),mapAt_alloc _ hlm];exact hm) ?_;intro es' hi'))
  have hf:Fr [mb] w (putMap ((w.alloc (Obj.cells #[Value.int IntKind.i64 k,Value.int IntKind.i64 h,Value.bool o] 216)).alloc (Obj.cells (gC ((grp l (c / 16)).set (c % 16) (k,h,o))) 265)) mb es' clock) :=
   (((Fr.refl _ w).alloc _).alloc _).trans (putMap_fr _ _ _ _) (by simp)
  exact bodyPost_ret (v:=.tuple #[]) (results_none rfl _ _ _) rfl ⟨⟨_,rfl⟩,TabW_set hT hc hs hf (mapAt_putMap (by simp;omega) _ _) hi' (by rw [if_pos Hz.out]),hf⟩
 ·have hzd:decide ((grp l (c / 16)).set (c % 16) (k,h,o)=zG)=false:=by simp [hz]
  have Hz:=hidIt hz
  clear hz
  go_enter Tryz.func205,Tryz.ntmps205
  go_wp2_with (first | (refine wpList_allocGroup rfl rfl ?_) | (refine wpList_buildGroup rfl rfl ?_) | (refine wpList_storeGroup rfl _ _ rfl _ rfl _ rfl (by simp) (grp_length _ _) (by simp [gC_size,zG_length]) ?_) | (refine wpList_storeSlot rfl _ _ rfl _ _ rfl (c % 16) rfl _ _ _ rfl (by simp) (by simp [grp_length];omega) ?_) | (refine wpList_loadGroup rfl _ rfl _ rfl (by simp) (by simp [grp_length]) ?_))
  have hwr:IntKind.i64.wrap ((c:Int) / 16)=(c:Int) / 16:=IntWalk.i64_in _ (by omega)
  refine wp_region_still_tail 7 follows (by as_aux_lemma=>kernel_rfl) ?_
  simp only [List.take_succ_cons,List.take_zero,List.drop_succ_cons,List.drop_zero]
  change wpStill _ _ (World.drew _) _ _ _
  still_step;still_step;still_step;still_step;still_step;still_step
  refine wpStill_loadGroup rfl _ rfl _ rfl (by simp) hl1 ?_
  refine wpStill_nil ?_
  change wpList _ _ _ _ _ (World.drew _)
  refine wpList_mapUpdate_isM rfl _ _ _ 251 rfl Tryz.underlying251 keyInt hi mb rfl _ rfl _ rfl (keyI hd0 hd1) (by rw [mapAt_drew,mapAt_alloc _ (by simp;omega),mapAt_alloc _ hlm];exact hm) ?_
  intro es' clock' hi'
  refine wpList_nil ?_
  have hf:Fr [mb] w (putMap ((w.alloc (Obj.cells #[Value.int IntKind.i64 k,Value.int IntKind.i64 h,Value.bool o] 216)).alloc (Obj.cells (gC ((grp l (c / 16)).set (c % 16) (k,h,o))) 265)).drew mb es' clock') :=
   (((Fr.refl _ w).alloc _).alloc _).drew.trans (putMap_fr _ _ _ _) (by simp)
  exact bodyPost_end (v:=.tuple #[]) (results_none rfl _ _ _) rfl ⟨⟨_,rfl⟩,TabW_set hT hc hs hf (mapAt_putMap (by simp;omega) _ _) hi' (by rw [if_neg Hz.out];rfl),hf⟩
end Go.Proofs.YtffnihooekbcnaaGreat
namespace Go.Proofs.YtffnihooekbcnaaGreat
open Go.RowKit Go.Maps
attribute [local go_sem] mapAt_alloc mapAt_setCell mapAt_drew mapAt_drewN
attribute [local go_sem high] equalSlot0
def SetPost (w:World) (tb mb:Nat) (r:List Slt × Slt × Int) (e:Ending) (w':World):Prop :=
 e=.returned (.tuple #[slotV r.2.1,.int .i64 r.2.2])∧TabW w' tb mb r.1∧Fr [mb] w w'
theorem Set_yes (tb mb:Nat) (l:List Slt) (c:Nat) (k h:Int) (o:Bool) (w:World) (hT:TabW w tb mb l) (h1:c<l.length) (h2:rightS (k,h,o)=true) :
 Calls Tryz.prog 182 #[.pointer (some ⟨tb,0,none⟩),.int .i64 (c:Int),.agg #[.int .i64 k,.int .i64 h,.bool o]] w (SetPost w tb mb (l.set c (k,h,o),tget l c,0)):=by
 have c0:w.cell? ⟨tb,0,none⟩=some (.int .i64 l.length):=hT.blk.cell 0
 have hlt:=hT.lt.1
 have hlm:=hT.lt.2
 have hlen:=hT.len
 go_enter Tryz.func182,Tryz.ntmps182
 go_wp2_with fail
 refine (Right_calls _ _ _ _).mono ?_
 rintro e w1 ⟨rfl,hf⟩
 rw [h2]
 have hF:Fr [] w w1:=(((Fr.refl _ w).alloc _).alloc _).trans0 hf
 replace hT:=hT.fr0 hF
 have B5:Blk w1 w.heap.size [.int .i64 k,.int .i64 h,.bool o] 216:=((Blk.new w [_,_,_] _).alloc _).fr0 hf
 have B6:Blk w1 (w.heap.size+1) [.int .i64 0,.int .i64 0,.bool false] 216:=(Blk.new' (by simp) [_,_,_] _).fr0 hf
 clear hf
 go_wp2_with fail
 refine (Get_calls tb mb l _ _ hT).mono ?_
 rintro e w2 ⟨rfl,hf⟩
 replace hF:=hF.trans0 hf
 replace hT:=hT.fr0 hf
 replace B5:=B5.fr0 hf
 replace B6:=B6.fr0 hf
 have c5:=B5.cell
 have l5:=B5.lt
 clear hf
 go_wp2_with fail
 have B8:Blk (w2.alloc (.cells #[.int .i64 (tget l c).1,.int .i64 (tget l c).2.1,.bool (tget l c).2.2] 216)) w2.heap.size (slotC (tget l c)) 216:=Blk.new _ _ _
 refine (put_calls tb mb l c k h o _ (hT.fr0 ((Fr.refl _ _).alloc _)) h1 h2).mono ?_
 rintro e w3 ⟨⟨v,rfl⟩,hT3,hf⟩
 replace hF:Fr [mb] w w3:=(hF.alloc _).weak.trans' hf
 have hlt2:w.heap.size+1<w2.heap.size:=B6.lt
 replace B6:=(B6.alloc _).fr hf (by simp;omega)
 replace B8:=B8.fr hf (by simp;omega)
 have c8:=B8.cell
 have c6:=B6.cell
 have f6:=B6.frozen
 clear hf c5 B5
 go_wp2_with fail
 have hfs:=Fr.set3 w3 (w.heap.size+1) (.int .i64 (tget l c).1) (.int .i64 (tget l c).2.1) (.bool (tget l c).2.2)
 exact bodyPost_ret (v:=.tuple #[slotV (tget l c),.int .i64 0]) (by simp [results,Tryz.results182,go_sem,c6]) rfl ⟨rfl,hT3.fr hfs (by simp;omega) (by simp;omega),hF.trans1 hfs (by omega)⟩
def gone (l:List Slt) (n k:Nat):List Slt:=((l.drop n).take (k - n)).filter fun s=>s.1 != 0
end Go.Proofs.YtffnihooekbcnaaGreat
namespace Go.Proofs.YtffnihooekbcnaaGreat
open Go
section
variable {P:Program} {ops:Array Oper} {Q:Exit→Act→World→Prop} {w0:World}
def fB (md:Region.Mode) (ops:Array Oper):List (Bool × Nat)→Array Bool→Bool
 | [],listed=>(Region.ready md ops listed).isEmpty
 | (true,k) :: rest,listed=>Region.free md ops listed k && (Region.ready md ops listed).contains k && fB md ops rest (listed.setIfInBounds k true)
 | (false,k) :: rest,listed=>decide (Region.ready md ops listed=[k]) && fB md ops rest (listed.setIfInBounds k true)
def inOrder (l:List Oper) (d:Oper) (order:List (Bool × Nat)):List (Bool × Oper):=order.map fun p=>(p.1,l.getD p.2 d)
variable {a:Act} {w:World} {rest:List (Bool × Oper)} {o:Oper}
end
section
variable {P:Program} {ops:Array Oper} {Q:Exit→Act→World→Prop}
def noEnd (Q:Exit→Act→World→Prop):Exit→Act→World→Prop
 | .panic _,_,_=>False
 | .outgrown,_,_=>False
 | e,a,w=>Q e a w
def plainOps (ops:Array Oper):Bool:=ops.all fun o=>match o.op with | .defer _=>false | _=>true
theorem rowsIn_round {lp n:Nat} {row:String} {args:Array Value} {w:World} {R:Value→World→Prop} (h:Rows P row args w R):RowsIn (Fence.wide.inRound lp) n P row args w R :=
 fun c cs _=>let ⟨v,w',r,s⟩:=h c cs;⟨v,w',r,(stepsIn_wide (P:=P)).2 s⟩
theorem operIn_round {lp:Nat} {o:Oper} {a:Act} {w:World} {K K':Act→World→Prop} (hd:∀c,o.op≠.defer c) (hK:∀a w,K a w→K' a w) (h:o.wp P a w K (noEnd Q)):o.wpIn (Fence.wide.inRound lp) 0 P a w K' Q:=by
 unfold Oper.wp at h
 unfold Oper.wpIn
 refine ⟨fun _ _=>trivial,?_⟩
 rw [Fence.inRound_round,Oper.semAt_some lp _ _ hd]
 generalize (execOp a.eval o).run P w=r at *
 cases r with
 | ok x w' =>
   cases x <;> simp only [Oper.upon] at h <;> simp only [Oper.uponIn]
   case value=>exact hK _ _ h
   case skip=>exact hK _ _ h
   case defer=>exact hK _ _ h
   case enter f args =>
    refine ⟨fun hh=>(by cases hh),(CallsIn.inRound lp (callsIn_wide.2 h)).mono ?_⟩
    rintro e w'' he
    cases e with
    | returned v=>exact hK _ _ he
    | panicked c=>exact (he:False).elim
    | outgrown=>obtain ⟨_,_,hf⟩:=he;exact (hf:False).elim
   case row row args=>exact ⟨fun hh=>(by cases hh),(rowsIn_round h).mono fun v w'' he=>hK _ _ he⟩
 | halt x w' =>
   cases x <;> simp only [Oper.upon] at h <;> simp only [Oper.uponIn]
   case panic=>exact (h:False).elim
theorem anyIn_round {lp:Nat} {md:Region.Mode} (hp:plainOps ops=true):∀(fuel:Nat) (listed:Array Bool) (a:Act) (w:World),wpAny P md ops (noEnd Q) fuel listed a w→wpAnyIn (Fence.wide.inRound lp) 0 P md ops Q fuel listed a w
 | 0,_,_,_,h=>h
 | fuel+1,listed,a,w,h=>by
   refine ⟨h.1,fun i hi=>?_⟩
   have h1:=h.2 i hi
   unfold wpOp at h1
   unfold wpOpIn
   cases ho:ops[i]? with
   | none =>
     simp only [ho] at h1
     exact anyIn_round hp fuel _ _ _ h1
   | some o =>
     simp only [ho] at h1
     have hd:∀c,o.op≠.defer c:=by
      intro c hc
      unfold plainOps at hp
      rw [Array.all_eq_true] at hp
      obtain ⟨hlt,hget⟩:=Array.getElem?_eq_some_iff.1 ho
      have:=hp i hlt
      rw [hget,hc] at this
      cases this
     simp only
     split
     ·rename_i hw
      rw [if_pos hw] at h1
      rcases h1 with h1 | ⟨_,_,_,hf⟩
      ·exact operIn_round hd (fun a w h=>anyIn_round hp fuel _ a w h) h1
      ·exact (hf:False).elim
     ·rename_i hw
      rw [if_neg hw] at h1
      exact ⟨fun _ _=>trivial,anyIn_round hp fuel _ _ _ h1⟩
end
end Go.Proofs.YtffnihooekbcnaaGreat
