/-
  What is saved to a store, in plain Lean: the steps, and what they leave.
-/
import Derived.Test.YtffnihooekbcnaaGreatG21
import Derived.Laws.Cover3
import Derived.Deep.WholeRow
import Derived.Test.YtffnihooekbcnaaGreatG22
set_option maxRecDepth 100000
set_option maxHeartbeats 6400000
namespace Go.Proofs.YtffnihooekbcnaaGreat
open Go.RowKit Go.Maps
def chunkB (b:By) (i:Nat):By:=(b.drop (16*i)).take 16++zBy (16 - ((b.drop (16*i)).take 16).length)
theorem chunkB_len (b:By) (i:Nat):(chunkB b i).length=16:=by
 unfold chunkB
 rw [List.length_append]
 have:((b.drop (16*i)).take 16).length≤16:=List.length_take_le _ _
 simp [zBy]
 simp at this
 omega
def nch (b:By):Nat:=(b.length+15) / 16
abbrev Sop:=Option (Nat × By)
def chunkO (b:By) (n:Nat):List Sop:=(List.range n).map fun i=>some (2+i,chunkB b i)
theorem chunkO_succ (b:By) (n:Nat):chunkO b (n+1)=chunkO b n++[some (2+n,chunkB b n)]:=by
 unfold chunkO
 rw [List.range_succ,List.map_append]
 rfl
def saveO (b:By):List Sop:=chunkO b (nch b)++[none]++[some (0,headB b)]++[none]
def runO (g:Nat→Option By):List Sop→Nat→Option By
 | []=>g
 | none :: l=>runO g l
 | some (k,x) :: l=>runO (putS g k x) l
theorem runO_app:∀(l:List Sop) (g:Nat→Option By) (l':List Sop),runO g (l++l')=runO (runO g l) l'
 | [],_,_=>rfl
 | none :: l,g,l'=>runO_app l g l'
 | some (k,x) :: l,g,l'=>runO_app l (putS g k x) l'
theorem runO_chunk (b:By) (g:Nat→Option By):∀n k,runO g (chunkO b n) k=if 2≤k∧k<2+n then some (chunkB b (k - 2)) else g k
 | 0,k=>by
   rw [if_neg (by omega)]
   rfl
 | n+1,k=>by
   rw [chunkO_succ,runO_app]
   show putS (runO g (chunkO b n)) (2+n) (chunkB b n) k=_
   unfold putS
   by_cases e:k=2+n
   ·subst e
    rw [if_pos rfl,if_pos ⟨by omega,by omega⟩,show 2+n - 2=n by omega]
   ·rw [if_neg e,runO_chunk b g n k]
    by_cases h:2≤k∧k<2+n
    ·rw [if_pos h,if_pos ⟨h.1,by omega⟩]
    ·rw [if_neg h,if_neg (by omega)]
def goodO (o:Sop):Prop:=match o with | none=>True | some (k,x)=>k<512∧x.length=16
theorem saveO_good {b:By} (hb:b.length≤4080):∀o∈saveO b,goodO o:=by
 intro o ho
 unfold saveO at ho
 simp only [List.mem_append,List.mem_singleton] at ho
 rcases ho with ((ho | rfl) | rfl) | rfl
 ·unfold chunkO at ho
  obtain ⟨i,hi,rfl⟩:=List.mem_map.1 ho
  have:=List.mem_range.1 hi
  unfold nch at this
  exact ⟨by omega,chunkB_len b i⟩
 ·trivial
 ·exact ⟨by omega,headB_len b⟩
 ·trivial
theorem chunks_take (b:By):∀n,n≤nch b→((List.range n).flatMap fun i=>chunkB b i).take b.length=b.take (16*n)
 | 0,_=>by simp
 | n+1,h=>by
   rw [List.range_succ,List.flatMap_append,List.flatMap_cons,List.flatMap_nil,List.append_nil,List.take_append,chunks_take b n (by omega)]
   have hl:((List.range n).flatMap fun i=>chunkB b i).length=16*n:=by
    clear h
    induction n with
    | zero=>simp
    | succ n ih=>rw [List.range_succ,List.flatMap_append,List.length_append,ih];simp [chunkB_len];omega
   rw [hl]
   unfold nch at h
   have h1:16*n≤b.length:=by omega
   unfold chunkB
   rw [List.take_append]
   have e:((b.drop (16*n)).take 16).take (b.length - 16*n)=(b.drop (16*n)).take 16:=List.take_of_length_le (by simp;omega)
   have e2:(zBy (16 - ((b.drop (16*n)).take 16).length)).take (b.length - 16*n - ((b.drop (16*n)).take 16).length)=[]:=by
    rw [List.length_take,List.length_drop]
    by_cases h2:16≤b.length - 16*n
    ·rw [Nat.min_eq_left h2];simp [zBy]
    ·rw [Nat.min_eq_right (by omega)];simp
   rw [e,e2,List.append_nil,show 16*(n+1)=16*n+16 by omega,List.take_add]
theorem saveO_saved {b:By} (hb:b.length≤4080):secF (runO (fun _=>none) (saveO b)) 0=headB b∧secF (runO (fun _=>none) (saveO b)) 1=zBy 16∧(secsF (runO (fun _=>none) (saveO b)) 2 255).take b.length=b:=by
 have hr:∀k,runO (fun _=>none) (saveO b) k=if k=0 then some (headB b) else if 2≤k∧k<2+nch b then some (chunkB b (k - 2)) else none:=fun k=>by
  unfold saveO
  rw [runO_app,runO_app,runO_app]
  show putS (runO (fun _=>none) (chunkO b (nch b))) 0 (headB b) k=_
  unfold putS
  rw [runO_chunk]
 refine ⟨by unfold secF;rw [hr,if_pos rfl];rfl,by unfold secF;rw [hr,if_neg (by omega),if_neg (by omega)];rfl,?_⟩
 have hn:nch b≤255:=by unfold nch;omega
 have h1:secsF (runO (fun _=>none) (saveO b)) 2 255=((List.range (nch b)).flatMap fun i=>chunkB b i)++((List.range (255 - nch b)).map (nch b+·)).flatMap fun i=>zBy 16:=by
  unfold secsF
  have e:List.range 255=List.range (nch b)++(List.range (255 - nch b)).map (nch b+·):=by
   rw [←List.range_add,show nch b+(255 - nch b)=255 by omega]
  have hpt:∀(l:List Nat) (F G:Nat→By),(∀i∈l,F i=G i)→l.flatMap F=l.flatMap G:=fun l F G h=>by
   induction l with
   | nil=>rfl
   | cons x l ih=>rw [List.flatMap_cons,List.flatMap_cons,h x List.mem_cons_self,ih fun i hi=>h i (List.mem_cons_of_mem _ hi)]
  rw [e,List.flatMap_append]
  congr 1
  ·refine hpt _ _ _ fun i hi=>?_
   have:=List.mem_range.1 hi
   unfold secF
   rw [hr,if_neg (by omega),if_pos ⟨by omega,by omega⟩,show 2+i - 2=i by omega]
   rfl
  ·refine hpt _ _ _ fun i hi=>?_
   obtain ⟨j,hj,rfl⟩:=List.mem_map.1 hi
   unfold secF
   rw [hr,if_neg (by omega),if_neg (by omega)]
   rfl
 have hl:((List.range (nch b)).flatMap fun i=>chunkB b i).length=16*nch b:=by
  generalize nch b=n
  induction n with
  | zero=>simp
  | succ n ih=>rw [List.range_succ,List.flatMap_append,List.length_append,ih];simp [chunkB_len];omega
 have h16:b.length≤16*nch b:=by unfold nch;omega
 rw [h1,List.take_append_of_le_length (by omega),chunks_take b _ (Nat.le_refl _)]
 exact List.take_of_length_le h16
end Go.Proofs.YtffnihooekbcnaaGreat
namespace Go.Proofs.YtffnihooekbcnaaGreat
open Go.RowKit Go.Maps
attribute [local go_sem] mapAt_alloc mapAt_setCell mapAt_drew mapAt_drewN
theorem infoWr:(Tryz.prog.info? 235).map (fun i=>(i.zero,i.size,i.bytes))=some (some (.agg #[.int .i64 0,.int .u8 0,.int .u8 0,.int .u8 0,.int .u8 0,.int .u8 0,.int .u8 0,.int .u8 0,.int .u8 0,.int .u8 0,.int .u8 0,.int .u8 0,.int .u8 0,.int .u8 0,.int .u8 0,.int .u8 0,.int .u8 0]),17,24):=by kernel_rfl
def arA (x:By):Array Value:=(x.map fun b=>Value.int .u8 (b.toNat:Int)).toArray
theorem arV_A (x:By):arV x=.agg (arA x):=rfl
theorem arA_size (x:By):(arA x).size=x.length:=by simp [arA]
theorem arA_flat (x:By):arA x=(x.flatMap byC).toArray:=by
 unfold arA
 congr 1
 induction x with
 | nil=>rfl
 | cons b l ih=>rw [List.map_cons,List.flatMap_cons,ih];rfl
theorem arA_one (x:By):(arA x).all (·.oneCell')=true:=by
 simp [arA,Value.oneCell']
theorem fold17 (k:Value) (c:Array Value) (h:c.size=16):Array.foldl (fun (cs:Array Value) (x:Value × Nat)=>cs.setIfInBounds (1+x.snd) x.fst) #[k,Value.int .u8 0,Value.int .u8 0,Value.int .u8 0,Value.int .u8 0,Value.int .u8 0,Value.int .u8 0,Value.int .u8 0,Value.int .u8 0,Value.int .u8 0,Value.int .u8 0,Value.int .u8 0,Value.int .u8 0,Value.int .u8 0,Value.int .u8 0,Value.int .u8 0,Value.int .u8 0] c.zipIdx 0 16=(k :: c.toList).toArray:=by
 obtain ⟨l⟩:=c
 match l,h with
 | [c0,c1,c2,c3,c4,c5,c6,c7,c8,c9,c10,c11,c12,c13,c14,c15],_=>simp [List.zipIdx_cons]
theorem foldD (D:Array Value) (h:D.size=17):Array.foldl (fun (cs:Array Value) (x:Value × Nat)=>cs.setIfInBounds x.snd x.fst) #[Value.int .i64 0,Value.int .u8 0,Value.int .u8 0,Value.int .u8 0,Value.int .u8 0,Value.int .u8 0,Value.int .u8 0,Value.int .u8 0,Value.int .u8 0,Value.int .u8 0,Value.int .u8 0,Value.int .u8 0,Value.int .u8 0,Value.int .u8 0,Value.int .u8 0,Value.int .u8 0,Value.int .u8 0] D.zipIdx 0 17=D:=by
 obtain ⟨l⟩:=D
 match l,h with
 | [c0,c1,c2,c3,c4,c5,c6,c7,c8,c9,c10,c11,c12,c13,c14,c15,c16],_=>simp [List.zipIdx_cons]
def cellsAt (w:World) (b off n:Nat):Array Value:=((List.range n).map fun j=>(w.cell? ⟨b,off+j,none⟩).getD undef).toArray
def allAt (w:World) (b off n:Nat):Bool:=(List.range n).all fun j=>(w.cell? ⟨b,off+j,none⟩).isSome
theorem load16 {P:Program} {w:World} {b off:Nat} (h:allAt w b off 16=true):(loadCellsFrom ⟨b,off,none⟩ 0 16 #[]).run P w=.ok (cellsAt w b off 16) w:=by
 have h1:∀j,j<16→w.cell? ((⟨b,off,none⟩:Addr).add j)=some ((w.cell? ⟨b,off+j,none⟩).getD undef):=fun j hj=>by
  have hadd:(⟨b,off,none⟩:Addr).add j=⟨b,off+j,none⟩:=by unfold Addr.add;split <;> simp_all
  rw [hadd]
  unfold allAt at h
  rw [List.all_eq_true] at h
  obtain ⟨u,hu⟩:=Option.isSome_iff_exists.1 (h j (List.mem_range.2 hj))
  rw [hu]
  rfl
 have:=run_loadCellsFrom (P:=P) w ⟨b,off,none⟩ (fun j=>(w.cell? ⟨b,off+j,none⟩).getD undef) 16 0 #[] (fun j hj=>by rw [Nat.zero_add];exact h1 j hj)
 rw [this]
 unfold cellsAt
 simp
theorem at_of {w:World} {b off:Nat} {c:Array Value} (hn:c.size=16) (h:∀j u,c[j]? = some u→w.cell? ⟨b,off+j,none⟩=some u):allAt w b off 16=true∧cellsAt w b off 16=c:=by
 have h1:∀j,(hj:j<16)→w.cell? ⟨b,off+j,none⟩=some (c[j]'(by omega)):=fun j hj=>h j _ (Array.getElem?_eq_getElem (by omega))
 refine ⟨?_,?_⟩
 ·unfold allAt
  rw [List.all_eq_true]
  intro j hj
  rw [h1 j (List.mem_range.1 hj)]
  rfl
 ·unfold cellsAt
  refine Array.ext (by simp [hn]) fun j hj1 hj2=>?_
  simp only [List.getElem_toArray,List.getElem_map,List.getElem_range]
  rw [h1 j (by omega)]
  rfl
def arr16 (a:Addr):Sem (Array Value):=loadCells a 16
theorem to_arr16 (a:Addr):loadCells a 16=arr16 a:=rfl
theorem to_arr16' (a:Addr):loadCellsFrom a 0 16 #[]=arr16 a:=rfl
theorem run_arr16 {P:Program} {w:World} {b off:Nat} (h:allAt w b off 16=true):(arr16 ⟨b,off,none⟩).run P w=.ok (cellsAt w b off 16) w:=load16 h
attribute [irreducible] cellsAt allAt arr16
attribute [local go_sem ↓ high] to_arr16 to_arr16'
attribute [local go_sem high] run_arr16
section
variable {w w':World} {sb sm nm N:Nat} {v:Value} {f g:Nat→Option By}
def stWritePost (w:World) (sb sm nm N base n k:Nat) (v:Value) (x:By) (f g:Nat→Option By) (e:Ending) (w':World):Prop :=
 e=.returned (.int .i64 0)∧∃v' xs',StoW w' sb sm nm v' N f (putS g k x)∧w'.ownsRow base 235 17 v' (n+1) xs'∧Fr (sb :: nm :: v.ownBlock.toList) w w'∧∀y,v'.ownBlock=some y→v.ownBlock=some y∨w.heap.size≤y
theorem stWrite_calls (base n k:Nat) (xs:List Value) (xv:Value) (x:By) (h:StoW w sb sm nm v N f g) (hk:k<N) (hN:N≤4000) (hx:x.length=16) (hxv:SlY w xv x)
 (hown:w.ownsRow base 235 17 v n xs) (hb:base≤w.heap.size) (hn:n≤10000) (hvb:∀y,v.ownBlock=some y→y≠sb∧y≠sm∧y≠nm) :
 Calls Tryz.prog 224 #[.pointer (some ⟨sb,0,none⟩),.int .i64 (k:Int),xv] w (stWritePost w sb sm nm N base n k v x f g):=by
 obtain ⟨a,cap,rfl,hlc,hcm,_⟩:=SlF.open hxv
 have kI:Calls Tryz.prog 250 #[.pointer (some ⟨sb,0,none⟩),.int .i64 (k:Int),.int .i64 1] w fun e w'=>e=.returned (.bool true)∧w'=w:=stInside_calls k 1 h (by omega) (by omega)
 obtain ⟨m,hm,kU⟩:=stUsed_calls h
 rw [hx] at hxv hlc ⊢
 obtain ⟨c,hc⟩:∃c,Hid (arA x=c):=⟨_,hidIt rfl⟩
 have hsz:c.size=16:=by rw [←hc.out,arA_size,hx]
 have hone:Hid (c.all (·.oneCell')=true):=hidIt (by rw [←hc.out];exact arA_one x)
 obtain ⟨bk,off,rfl,hbk,hcs⟩:∃bk off,a=some ⟨bk,off,none⟩∧bk<w.heap.size∧∀j u,c[j]? = some u→w.cell? ⟨bk,off+j,none⟩=some u:=by
  obtain ⟨a',cap',hv,_,_,h2⟩:=hxv
  rw [hx] at hv
  cases hv
  have hl:x.length=16:=hx
  rcases h2 with h2 | ⟨b,off,rfl,hb,h2⟩
  ·have:=congrArg List.length h2
   rw [flatY_length,hl] at this
   cases this
  ·refine ⟨b,off,rfl,hb,fun j u hu=>h2 j u ?_⟩
   rw [←hc.out,arA_flat] at hu
   simpa using hu
 go_enter Tryz.func224,Tryz.ntmps224
 go_wp2_with fail
 refine kI.mono ?_
 rintro e w1 ⟨rfl,hw1⟩
 rw [hw1]
 clear hw1 w1 kI
 go_wp2_with fail
 refine kU.mono ?_
 rintro e w1 ⟨rfl,hw1⟩
 rw [hw1]
 clear hw1 w1
 go_wp2_with fail
 go_loopw [8,36] (fun u i wr=>∃(j q:Nat),j≤1∧i=.int .i64 (j:Int)∧u=.int .i64 (q:Int)∧q≤m+j∧Fr [] w wr) (fun _ i _=>1 - (intOf i).toNat)
 case atStart=>exact ⟨0,m,Nat.zero_le _,rfl,rfl,Nat.le_refl _,Fr.refl _ _⟩
 case round =>
 obtain ⟨j,q,hj,rfl,rfl,hq,hF⟩:=hrel
 by_cases hlt:j<1
 case pos =>
  have hj0:j=0:=by omega
  subst hj0
  have hr:=h.fr0 hF
  have cc:=hr.blk.cell
  have hlk:=hr.seen.look true (k:=k) (by omega) (by kernel_rfl)
  rw [arV_A] at hlk
  obtain ⟨d,hd⟩:∃d,Hid (arA (secF g k)=d):=⟨_,hidIt rfl⟩
  have hdz:d.size=16:=by rw [←hd.out,arA_size,hr.seen.1.len]
  have hdo:=arA_one (secF g k)
  rw [hd.out] at hlk hdo
  have hst:=run_storeCells_new (P:=Tryz.prog) wr 233 #[.int .u8 0,.int .u8 0,.int .u8 0,.int .u8 0,.int .u8 0,.int .u8 0,.int .u8 0,.int .u8 0,.int .u8 0,.int .u8 0,.int .u8 0,.int .u8 0,.int .u8 0,.int .u8 0,.int .u8 0,.int .u8 0] d (by rw [hdz];kernel_rfl) hdz.symm hdo
  simp only [if_true] at hlk
  generalize (g k).isSome=is at hlk
  clear hcs hdo
  cases is with
  | true =>
    go_wp2
    go_roundw
    case rel=>exact ⟨1,q,Nat.le_refl _,rfl,rfl,by omega,hF.alloc _⟩
    case measure=>simp [intOf]
  | false =>
    go_wp2
    go_roundw
    case rel=>exact ⟨1,q+1,Nat.le_refl _,rfl,by go_num,by omega,hF.alloc _⟩
    case measure=>simp [intOf]
 have hj1:j=1:=by omega
 subst hj1
 have hr:=h.fr0 hF
 have cc:=hr.blk.cell
 have hq4:¬(4096:Int)<(q:Int):=by omega
 go_wp2_with fail
 have hcs2:∀j u,c[j]? = some u→wr.cell? ⟨bk,off+j,none⟩=some u:=fun j u hu=>(World.cell?_of_block (hF.block bk hbk (by simp))).trans (hcs j u hu)
 clear hcs hxv kU
 generalize wr=wq at *
 go_loopw [68] (fun i wr=>(i=.int .i64 0∧wr=wq)∨(i=.int .i64 1∧∃v' xs',StoW wr sb sm nm v' N f (putS g k x)∧wr.ownsRow base 235 17 v' (n+1) xs'∧Fr (sb :: nm :: v.ownBlock.toList) w wr∧∀y,v'.ownBlock=some y→v.ownBlock=some y∨w.heap.size≤y)) (fun i _=>1 - (intOf i).toNat)
 case atStart=>exact .inl ⟨rfl,rfl⟩
 case round =>
 rcases hrel with ⟨rfl,rfl⟩ | ⟨rfl,v',xs',g1,g2,g3,g4⟩
 case inr =>
  clear hcs2 cc hr
  go_wp2
  go_ret
  exact ⟨rfl,v',xs',g1,g2,g3,g4⟩
 have hat:=fun W=>run_arrayAt (P:=Tryz.prog) (w:=W) 233 5 16 (some ⟨bk,off,none⟩) 16 cap Tryz.underlying233 (Nat.le_refl _)
 have ⟨hal,hca⟩:=at_of hsz hcs2
 have hst:=run_storeCells_new (P:=Tryz.prog) wr 233 #[.int .u8 0,.int .u8 0,.int .u8 0,.int .u8 0,.int .u8 0,.int .u8 0,.int .u8 0,.int .u8 0,.int .u8 0,.int .u8 0,.int .u8 0,.int .u8 0,.int .u8 0,.int .u8 0,.int .u8 0,.int .u8 0] c (by rw [hsz];kernel_rfl) hsz.symm hone.out
 obtain ⟨W1,hW1⟩:∃W1,Hid (wr.alloc (Obj.cells c 233)=W1):=⟨_,hidIt rfl⟩
 have hF1:Fr [] wr W1:=by rw [←hW1.out];exact (Fr.refl [] wr).alloc _
 have B1:W1.heap[wr.heap.size]? = some (.cells c 233 (0,0)):=by rw [←hW1.out];exact heap_alloc_new wr _
 have hl1:wr.heap.size<W1.heap.size:=by rw [←hW1.out];simp
 go_wp2_with fail
 rw [hW1.out]
 have hz1:=hF.size
 have hz2:=hF1.size
 have hltr:=hr.lt
 generalize wr.heap.size=nb at *
 have hr1:=(hr.fr0 hF1).fr0 ((Fr.refl [] W1).drew)
 have hown1:=owns_drew (owns_fr hown (hF.trans0 hF1) (by simp))
 have hFd:=(hF.trans0 hF1).drew
 have hcell:∀W,W.heap[nb]? = W1.heap[nb]?→allAt W nb 0 16=true∧cellsAt W nb 0 16=c:=fun W hW=>at_of hsz fun j u hu=>by
  rw [Nat.zero_add,cell_of_row W nb j c _ _ (hW.trans B1)]
  exact hu
 clear hW1 hat cc hr hF1 hF hal hca hst hcs2
 obtain ⟨W2,hup,hs2,hf2⟩:=hr1.seen.put (k:=k) hk (by omega) hx
 rw [arV_A,hc.out] at hup
 have hne:=hr1.ne
 have hB2:=hr1.blk.fr hf2 (by simp;omega)
 have hs3:=hr1.safe.fr hf2 (by simp;omega)
 have hltn:=hr1.lt
 have cW:=hr1.blk.cell
 have ⟨hc1,hc2⟩:=hcell W1.drew rfl
 have hF2:Fr (sb :: nm :: v.ownBlock.toList) w W2:=hFd.weak.trans' (hf2.mono (fun y hy _=>by simp at hy;subst hy;simp))
 have hown2:=owns_fr hown1 hf2 (fun y hy=>by simpa using (hvb y hy).2.2)
 have hnb2:W2.heap[nb]? = W1.heap[nb]?:=hf2.block nb hl1 (by simp;omega)
 refine wp_region_still_tail 8 bFollows (by as_aux_lemma=>kernel_rfl) ?_
 simp only [List.take_succ_cons,List.take_zero,List.drop_succ_cons,List.drop_zero]
 change wpStill _ _ (World.drew _) _ _ _
 iterate 8 still_step
 refine wpStill_nil ?_
 go_wp2_with fail
 rw [hup]
 simp only [Result.andThen]
 go_wp2_with fail
 have hwk:IntKind.i64.wrap (k:Int)=(k:Int):=IntWalk.i64_in _ (by omega)
 have hbno:∀y,v.ownBlock=some y→y≠sb∧y≠nb:=fun y hy=>⟨(hvb y hy).1,by have:=(hown.lt y hy).2;omega⟩
 have nsb:sb ∉ v.ownBlock.toList:=fun hm=>(hbno sb (by simpa using hm)).1 rfl
 have nnb:nb ∉ v.ownBlock.toList:=fun hm=>(hbno nb (by simpa using hm)).2 rfl
 have hobl:∀y,v.ownBlock=some y→y<w.heap.size:=fun y hy=>(hown.lt y hy).2
 have hB2d:=hB2.drew
 have hown2d:=owns_drew hown2
 have hz3:=hF2.size
 have l2b:sb<W2.heap.size:=hB2.lt
 have hl2:nb<W2.drew.heap.size:=Nat.lt_of_lt_of_le hl1 hf2.size
 have hcX:∀X,Fr v.ownBlock.toList W2.drew X→allAt X nb 0 16=true∧cellsAt X nb 0 16=c:=fun X hX=>hcell X ((hX.block nb hl2 nnb).trans hnb2)
 clear hup cW hr1 hown1 hFd hc1 hc2
 refine wp_region_Z 14 (Fr v.ownBlock.toList W2.drew) [(true,0),(true,1),(true,2),(true,3),(true,4),(true,5),(true,6),(true,7),(true,8),(true,9),(false,10),(false,11),(false,12),(true,13)] (by as_aux_lemma=>kernel_rfl) (by as_aux_lemma=>kernel_rfl) (Fr.refl _ _) ?_
 simp only [inOrder,jD,jE,jF,jG]
 iterate 4 (refine wpG_pure fun K hK=>?_;go_simp;refine hK _ ?_;clear hK K)
 refine wpG_val (v) (by first | rfl | go_simp) (fun X hX=>by have cc:=(hB2d.fr hX nsb).cell;go_simp) ?_
 simp only [Act.put,jA,jB,jC]
 iterate 3 (refine wpG_pure fun K hK=>?_;go_simp;refine hK _ ?_;clear hK K)
 refine wpG_val (.agg c) (by first | rfl | go_simp) (fun X hX=>by have ⟨ca,cb⟩:=hcX X hX;go_simp) ?_
 simp only [Act.put,jA,jB,jC]
 iterate 1 (refine wpG_pure fun K hK=>?_;go_simp;refine hK _ ?_;clear hK K)
 obtain ⟨D,hD⟩:∃D,Hid ((Value.int .i64 (k:Int) :: c.toList).toArray=D):=⟨_,hidIt rfl⟩
 have hb1:=fold17 (.int .i64 (k:Int)) c hsz
 rw [hD.out] at hb1
 have hDz:D.size=17:=by rw [←hD.out];simp [hsz]
 have hDo:∀u∈D.toList,u.oneCell'=true:=by
  rw [←hD.out]
  intro u hu
  rcases List.mem_cons.1 hu with rfl | hu
  ·rfl
  ·have:=hone.out
   rw [←Array.all_toList] at this
   exact List.all_eq_true.1 this u hu
 have hb2:=foldD D hDz
 refine wpG_one fun K hK=>?_
 go_simp
 refine hK _ _ (((Fr.refl [] W2.drew).alloc (.cells D 235)).weak) ?_
 clear hK K
 refine wpG_list rfl (fun _ _ h=>h) fun K hK=>?_
 have BD:Blk (W2.alloc (.cells D 235)).drew W2.heap.size D.toList 235:=by
  have:=Blk.new W2 D.toList 235
  simpa using this.drew
 refine wpList_append1 229 235 _ 17 24 Tryz.underlying229 infoWr rfl (by decide) (by decide) rfl _ _ rfl base v n _ rfl (owns_drew (hown2.alloc _)) D.toList (by simp [hDz]) hDo W2.heap.size rfl BD (by omega) (by simp;omega) ?_
 intro v' w7 hown7 hgrow7 hloc7
 have hF7:Fr v.ownBlock.toList W2.drew w7:=((Fr.refl [] W2.drew).alloc _).weak.trans' (Fr.of_grown hgrow7)
 refine hK _ (fun _ h=>h) _ _ hF7 ?_
 clear hK K
 have h57:=hB2d.fr hF7 nsb
 have c5:=h57.cell
 have f5:=h57.frozen
 have l5:=h57.lt
 have hl7:∀x,v'.ownBlock=some x→v.ownBlock=some x∨w.heap.size≤x:=fun x hx=>by
  rcases hloc7 with h | h
  ·left;rw [←h,hx]
  ·right;rw [h] at hx;cases hx;simp;omega
 obtain ⟨a7,c7,rfl,_⟩:=Sl.of_owns hown7
 clear hb1 hb2 BD hDo hown2d
 refine wpG_one fun K hK=>?_
 go_simp
 refine hK _ _ hF7 ?_
 clear hK K
 iterate 1 (refine wpG_pure fun K hK=>?_;go_simp;refine hK _ ?_;clear hK K)
 refine wpG_last fun K hK=>?_
 go_simp
 refine hK _ _ ?_
 clear hK K
 have hs7:Fr [sb] w7 (w7.setCell ⟨sb,4,none⟩ (.slice a7 (n+1) c7)):=(Fr.refl _ w7).setCell (.inl (by simp)) _
 have hW7:Fr (v.ownBlock.toList) W2 w7:=((Fr.refl [] W2).drew).weak.trans' hF7
 have hB9:=h57.setCell 4 (.slice a7 (n+1) c7)
 have hown9:=owns_fr hown7 hs7 (fun y hy hm=>by
  have e:=List.mem_singleton.1 hm
  rw [e] at hy
  rcases hloc7 with h9 | h9
  ·exact nsb (by rw [←h9,hy];simp)
  ·rw [h9] at hy;injection hy with hy;simp at hy;omega)
 have hsm9:=(hs3.fr hW7 (fun hm=>(hvb sm (by simpa using hm)).2.1 rfl)).fr hs7 (by simp;omega)
 have hnm9:=(hs2.fr hW7 (fun hm=>(hvb nm (by simpa using hm)).2.2 rfl)).fr hs7 (by simp;omega)
 have hF9:Fr (sb :: nm :: v.ownBlock.toList) w (w7.setCell ⟨sb,4,none⟩ (.slice a7 (n+1) c7)):=(hF2.trans' (hW7.mono (fun y hy _=>by simp at hy;simp [hy]))).trans' (hs7.mono (fun y hy _=>by simp at hy;simp [hy]))
 have hfin:=hidIt (And.intro hB9 (And.intro hsm9 (And.intro hnm9 (And.intro hown9 hF9))))
 clear hs7 hW7 hB9 hown9 hsm9 hnm9 hF9 hs2 hs3 hF2 hown2 hown7 h57 c5 f5 l5 hloc7 hF7 hgrow7
 go_wp2
 go_roundw
 case rel=>exact .inr ⟨by go_num,_,_,⟨hfin.out.1,hfin.out.2.1,hfin.out.2.2.1,hne⟩,hfin.out.2.2.2.1,hfin.out.2.2.2.2,hl7⟩
 case measure=>simp [intOf]
end
def StepW (w:World) (P:Nat→Prop) (b0:Nat) (fv:Value) (o:Sop):Prop :=
 match o with
 | none=>fv=.func (.func 220) #[] #[.pointer (some ⟨b0,0,none⟩)]
 | some (a,x)=>∃ba bx xv,fv=.func (.func 223) #[] #[.pointer (some ⟨b0,0,none⟩),.pointer (some ⟨ba,0,none⟩),.pointer (some ⟨bx,0,none⟩)]∧Blk w ba [.int .i64 (a:Int)] 3∧Blk w bx [xv] 31∧SlY w xv x∧P ba∧P bx∧∀k,xv.ownBlock=some k→P k
theorem StepW.fr {w w':World} {P:Nat→Prop} {b0:Nat} {fv:Value} {o:Sop} {M:List Nat} (h:StepW w P b0 fv o) (hf:Fr M w w') (hM:∀k∈M,¬P k):StepW w' P b0 fv o:=by
 cases o with
 | none=>exact h
 | some q =>
   obtain ⟨a,x⟩:=q
   obtain ⟨ba,bx,xv,h1,h2,h3,h4,h5,h6,h7⟩:=h
   exact ⟨ba,bx,xv,h1,h2.fr hf fun hm=>hM _ hm h5,h3.fr hf fun hm=>hM _ hm h6,SlF.fr h4 hf fun k hk hm=>hM _ hm (h7 k hk),h5,h6,h7⟩
theorem StepW.mono {w:World} {P Q:Nat→Prop} {b0:Nat} {fv:Value} {o:Sop} (h:StepW w P b0 fv o) (hPQ:∀k,P k→Q k):StepW w Q b0 fv o:=by
 cases o with
 | none=>exact h
 | some q =>
   obtain ⟨a,x⟩:=q
   obtain ⟨ba,bx,xv,h1,h2,h3,h4,h5,h6,h7⟩:=h
   exact ⟨ba,bx,xv,h1,h2,h3,h4,hPQ _ h5,hPQ _ h6,fun k hk=>hPQ _ (h7 k hk)⟩
abbrev fvC (x:Value × Sop):List Value:=[x.1]
def StepsW (w:World) (P:Nat→Prop) (b0:Nat) (l:List (Value × Sop)):Prop:=∀x∈l,StepW w P b0 x.1 x.2
theorem infoF:(Tryz.prog.info? 81).map (fun i=>(i.zero,i.size,i.bytes))=some (some .nilFunc,1,8):=by kernel_rfl
section
variable {w w':World} {sb sm nm:Nat} {v:Value} {f g:Nat→Option By}
theorem saFlush_calls (b0:Nat) (h:StoW w sb sm nm v 512 f g) (h0:Blk w b0 [.pointer (some ⟨sb,0,none⟩)] 165):Calls Tryz.prog 220 #[.pointer (some ⟨b0,0,none⟩)] w fun e w'=>e=.returned (.int .i64 0)∧StoW w' sb w.heap.size nm (.slice none 0 0) 512 g g∧Fr [sb] w w':=by
 have c:=h0.cell
 have kF:=stFlush_calls h
 go_enter Tryz.func220,Tryz.ntmps220
 go_wp2_with fail
 refine kF.mono ?_
 rintro e w1 ⟨rfl,h1,hf1⟩
 go_wp2
 go_ret
 exact ⟨rfl,h1,hf1⟩
theorem saWrite_calls (base n k:Nat) (xs:List Value) (x:By) (b0 ba bx:Nat) (xv:Value) (h:StoW w sb sm nm v 512 f g) (hk:k<512) (hx:x.length=16) (hxv:SlY w xv x)
 (hown:w.ownsRow base 235 17 v n xs) (hb:base≤w.heap.size) (hn:n≤10000) (hvb:∀y,v.ownBlock=some y→y≠sb∧y≠sm∧y≠nm)
 (h0:Blk w b0 [.pointer (some ⟨sb,0,none⟩)] 165) (ha:Blk w ba [.int .i64 (k:Int)] 3) (hX:Blk w bx [xv] 31) :
 Calls Tryz.prog 223 #[.pointer (some ⟨b0,0,none⟩),.pointer (some ⟨ba,0,none⟩),.pointer (some ⟨bx,0,none⟩)] w (stWritePost w sb sm nm 512 base n k v x f g):=by
 have c0:=h0.cell
 have c1:=ha.cell
 have c2:=hX.cell
 have kW:=stWrite_calls base n k xs xv x h hk (by omega) hx hxv hown hb hn hvb
 unfold stWritePost at kW ⊢
 go_enter Tryz.func223,Tryz.ntmps223
 go_wp2_with fail
 refine kW.mono ?_
 rintro e w1 ⟨rfl,v',xs',g1,g2,g3,g4⟩
 go_wp2
 go_ret
 exact ⟨rfl,v',xs',g1,g2,g3,g4⟩
end
structure SavW (w:World) (vb b0 sb:Nat) (P:Nat→Prop) (xs:List (Value × Sop)):Prop where
 blk:∃sv,Blk w vb [sv,.int .i64 0] 290∧SlF fvC w sv xs∧∀k,sv.ownBlock=some k→P k
 steps:StepsW w P b0 xs
 box:Blk w b0 [.pointer (some ⟨sb,0,none⟩)] 165
 pb:P b0
 pv:¬P vb
theorem cut_blockS {b off n c cap l k:Nat} {x:Nat} (h:(Value.slice (slAddr (some ⟨b,off,none⟩) cap l k) n c).ownBlock=some x):x=b:=by
 obtain ⟨p,hp,rfl⟩:=ownBlock_slice h
 unfold slAddr at hp
 split at hp
 ·cases hp;rfl
 ·simp only [Option.map_some,Option.some.injEq] at hp
  rw [←hp]
  unfold Addr.add
  split <;> rfl
section
variable {w w':World} {sb sm nm vb b0:Nat} {v:Value} {f g:Nat→Option By} {P:Nat→Prop}
theorem saLeft_calls (xs:List (Value × Sop)) (h:SavW w vb b0 sb P xs):Calls Tryz.prog 199 #[.pointer (some ⟨vb,0,none⟩)] w fun e w'=>e=.returned (.int .i64 (xs.length:Int))∧w'=w:=by
 obtain ⟨sv,hB,hs,_⟩:=h.blk
 obtain ⟨a,cap,rfl,_⟩:=SlF.open hs
 have c:=hB.cell
 go_enter Tryz.func199,Tryz.ntmps199
 go_wp2
 go_ret
 exact ⟨rfl,rfl⟩
theorem saStep_none (fv:Value) (rest:List (Value × Sop)) (h:SavW w vb b0 sb P ((fv,none) :: rest)) (hS:StoW w sb sm nm v 512 f g) (hp:¬P sb∧vb≠sb∧vb≠nm) :
 Calls Tryz.prog 200 #[.pointer (some ⟨vb,0,none⟩)] w fun e w'=>(∃b,e=.returned (.tuple #[.bool b,.int .i64 0]))∧SavW w' vb b0 sb P rest∧(∃sm',StoW w' sb sm' nm (.slice none 0 0) 512 g g∧w.heap.size≤sm')∧Fr [vb,sb] w w':=by
 obtain ⟨sv,hB,hs,hsP⟩:=h.blk
 have hst:=h.steps _ List.mem_cons_self
 obtain ⟨a,cap,rfl,hlc,hcm,hcc⟩:=SlF.open hs
 obtain ⟨bk,off,rfl,hbk,hc0⟩:=hcc 1 (fun _=>rfl) (by omega) 0 _ rfl
 have hc1:=hc0 0 _ rfl
 rw [Nat.zero_mul,Nat.zero_add,Nat.add_zero] at hc1
 simp only at hc1
 have hlen:((fv,none) :: rest).length=rest.length+1:=rfl
 rw [hlen] at hB hs hlc
 have hcut:∀W,(Instr.sliceAt 288 (.slice (some ⟨bk,off,none⟩) (rest.length+1) cap) (some (.int .i64 1)) none none).run Tryz.prog W=.ok (.slice (slAddr (some ⟨bk,off,none⟩) cap 1 1) rest.length (cap - 1)) W:=fun W=>cut_from (P:=Tryz.prog) (w:=W) 288 81 1 Tryz.underlying288 (by kernel_rfl) (some ⟨bk,off,none⟩) (rest.length+1) cap 1 (by omega)
 have hs1:=SlF.from 1 (fun _=>rfl) hs (m:=1) (by omega)
 rw [show ((fv,none) :: rest).drop 1=rest from rfl,show rest.length+1 - 1=rest.length from rfl] at hs1
 have cB:=hB.cell
 have hpv:=h.pv
 have hbox:=h.box
 have hne0:¬((rest.length:Int)+1=0):=by omega
 have hneb:(((rest.length:Int)+1) == 0)=false:=by simpa using hne0
 obtain rfl:fv=.func (.func 220) #[] #[.pointer (some ⟨b0,0,none⟩)]:=hst
 have hsP':∀k,(Value.slice (slAddr (some ⟨bk,off,none⟩) cap 1 1) (rest.length) (cap - 1)).ownBlock=some k→P k:=fun k hk=>hsP k (by rw [cut_blockS hk];rfl)
 have kC:=saFlush_calls b0 hS hbox
 have hsteps:=h.steps
 have hpb:=h.pb
 clear hcc hc0 h hlen
 go_enter Tryz.func200,Tryz.ntmps200
 go_wp2_with fail
 refine kC.mono ?_
 rintro e w1 ⟨rfl,hS1,hf1⟩
 clear kC
 have hnP:∀k∈[sb],¬P k:=fun k hk=>by rw [List.mem_singleton.1 hk];exact hp.1
 have hB1:=hB.fr hf1 (by simp;omega)
 have hs2:=SlF.fr hs1 hf1 fun k hk hm=>hnP k hm (hsP' k hk)
 have hst1:StepsW w1 P b0 rest:=fun y hy=>(hsteps y (List.mem_cons_of_mem _ hy)).fr hf1 hnP
 have hbox1:=hbox.fr hf1 fun hm=>hnP _ hm hpb
 have c1:=hB1.cell
 have f1:=hB1.frozen
 have l1:=hB1.lt
 obtain ⟨A,hA⟩:∃A,Hid (slAddr (some ⟨bk,off,none⟩) cap 1 1=A):=⟨_,hidIt rfl⟩
 rw [hA.out] at hs2 hcut
 have hs7:Fr [vb] w1 ((w1.setCell ⟨vb,1,none⟩ (.int .i64 0)).setCell ⟨vb,0,none⟩ (.slice A (rest.length) (cap - 1))):=((Fr.refl [vb] w1).setCell (p:=⟨vb,1,none⟩) (.inl (by simp)) _).setCell (p:=⟨vb,0,none⟩) (.inl (by simp)) _
 have hB2:Blk ((w1.setCell ⟨vb,1,none⟩ (.int .i64 0)).setCell ⟨vb,0,none⟩ (.slice A (rest.length) (cap - 1))) vb [.slice A (rest.length) (cap - 1),.int .i64 0] 290:=(hB1.setCell 1 (.int .i64 0)).setCell 0 (.slice A (rest.length) (cap - 1))
 have hv7:∀k∈[vb],¬P k:=fun k hk=>by rw [List.mem_singleton.1 hk];exact hpv
 have hs3:=SlF.fr hs2 hs7 fun k hk hm=>hv7 k hm (by rw [hA.out] at hsP';exact hsP' k hk)
 have hst2:StepsW _ P b0 rest:=fun y hy=>(hst1 y hy).fr hs7 hv7
 have hbox2:=hbox1.fr hs7 fun hm=>hv7 _ hm hpb
 have hltv:=hB1.lt
 have hS2:=hS1.fr hs7 (by simp;omega) (by simp;have:=hB.lt;omega) (by simp;omega)
 have hF2:Fr [vb,sb] w _:=(hf1.mono (M:=[vb,sb]) (fun y hy _=>by simp at hy;simp [hy])).trans' (hs7.mono (fun y hy _=>by simp at hy;simp [hy]))
 have hfin:=hidIt (And.intro hB2 (And.intro hs3 (And.intro hst2 (And.intro hbox2 (And.intro hS2 hF2)))))
 have c2:=hB2.cell
 clear hs7 hB2 hs3 hst2 hbox2 hS2 hF2 hs2 hst1 hbox1 hs1 hs hB hbox hf1
 go_wp2_with fail
 go_quiet (fail)
 go_wp2
 go_ret2
 exact ⟨⟨_,rfl⟩,⟨⟨_,hfin.out.1.fr0 ((Fr.refl [] _).drewN _),SlF.fr0 hfin.out.2.1 ((Fr.refl [] _).drewN _),by rw [hA.out] at hsP';exact hsP'⟩,fun y hy=>(hfin.out.2.2.1 y hy).fr ((Fr.refl [] _).drewN _) (by simp),hfin.out.2.2.2.1.fr0 ((Fr.refl [] _).drewN _),hpb,hpv⟩,⟨_,hfin.out.2.2.2.2.1.fr0 ((Fr.refl [] _).drewN _),Nat.le_refl _⟩,hfin.out.2.2.2.2.2.drewN _⟩
theorem saStep_some (k:Nat) (x:By) (base n:Nat) (xs:List Value) (fv:Value) (rest:List (Value × Sop)) (h:SavW w vb b0 sb P ((fv,some (k,x)) :: rest)) (hS:StoW w sb sm nm v 512 f g) (hk:k<512) (hx:x.length=16) (hown:w.ownsRow base 235 17 v n xs) (hb:base≤w.heap.size) (hn:n≤10000)
 (hvb:∀y,v.ownBlock=some y→y≠sb∧y≠sm∧y≠nm∧y≠vb∧¬P y) (hp:¬P sb∧¬P nm∧vb≠sb∧vb≠sm∧vb≠nm) :
 Calls Tryz.prog 200 #[.pointer (some ⟨vb,0,none⟩)] w fun e w'=>(∃b,e=.returned (.tuple #[.bool b,.int .i64 0]))∧SavW w' vb b0 sb P rest∧(∃v' xs',StoW w' sb sm nm v' 512 f (putS g k x)∧w'.ownsRow base 235 17 v' (n+1) xs'∧∀y,v'.ownBlock=some y→v.ownBlock=some y∨w.heap.size≤y)∧Fr (vb :: sb :: nm :: v.ownBlock.toList) w w':=by
 obtain ⟨sv,hB,hs,hsP⟩:=h.blk
 have hst:=h.steps _ List.mem_cons_self
 obtain ⟨a,cap,rfl,hlc,hcm,hcc⟩:=SlF.open hs
 obtain ⟨bk,off,rfl,hbk,hc0⟩:=hcc 1 (fun _=>rfl) (by omega) 0 _ rfl
 have hc1:=hc0 0 _ rfl
 rw [Nat.zero_mul,Nat.zero_add,Nat.add_zero] at hc1
 simp only at hc1
 have hlen:((fv,some (k,x)) :: rest).length=rest.length+1:=rfl
 rw [hlen] at hB hs hlc
 have hcut:∀W,(Instr.sliceAt 288 (.slice (some ⟨bk,off,none⟩) (rest.length+1) cap) (some (.int .i64 1)) none none).run Tryz.prog W=.ok (.slice (slAddr (some ⟨bk,off,none⟩) cap 1 1) rest.length (cap - 1)) W:=fun W=>cut_from (P:=Tryz.prog) (w:=W) 288 81 1 Tryz.underlying288 (by kernel_rfl) (some ⟨bk,off,none⟩) (rest.length+1) cap 1 (by omega)
 have hs1:=SlF.from 1 (fun _=>rfl) hs (m:=1) (by omega)
 rw [show ((fv,some (k,x)) :: rest).drop 1=rest from rfl,show rest.length+1 - 1=rest.length from rfl] at hs1
 have cB:=hB.cell
 have hpv:=h.pv
 have hbox:=h.box
 have hne0:¬((rest.length:Int)+1=0):=by omega
 have hneb:(((rest.length:Int)+1) == 0)=false:=by simpa using hne0
 obtain ⟨ba,bx,xv,rfl,hba,hbx,hxv,_,_,_⟩:=hst
 have hsP':∀k,(Value.slice (slAddr (some ⟨bk,off,none⟩) cap 1 1) (rest.length) (cap - 1)).ownBlock=some k→P k:=fun k hk=>hsP k (by rw [cut_blockS hk];rfl)
 have kC:=saWrite_calls base n k xs x b0 ba bx xv hS hk hx hxv hown hb hn (fun y hy=>⟨(hvb y hy).1,(hvb y hy).2.1,(hvb y hy).2.2.1⟩) hbox hba hbx
 have hnM:∀y∈sb :: nm :: v.ownBlock.toList,¬P y∧y≠vb:=fun y hy=>by
  rcases List.mem_cons.1 hy with rfl | hy
  ·exact ⟨hp.1,Ne.symm hp.2.2.1⟩
  ·rcases List.mem_cons.1 hy with rfl | hy
   ·exact ⟨hp.2.1,Ne.symm hp.2.2.2.2⟩
   ·have:=hvb y (by simpa using hy)
    exact ⟨this.2.2.2.2,this.2.2.2.1⟩
 have hltv:=hB.lt
 have hsteps:=h.steps
 have hpb:=h.pb
 clear hcc hc0 h hlen
 go_enter Tryz.func200,Tryz.ntmps200
 go_wp2_with fail
 refine kC.mono ?_
 rintro e w1 ⟨rfl,v',xs',hS1,hown1,hf1,hob1⟩
 clear kC
 have hnP:∀k∈sb :: nm :: v.ownBlock.toList,¬P k:=fun k hk=>(hnM k hk).1
 have hB1:=hB.fr hf1 (fun hm=>(hnM vb hm).2 rfl)
 have hs2:=SlF.fr hs1 hf1 fun k hk hm=>hnP k hm (hsP' k hk)
 have hst1:StepsW w1 P b0 rest:=fun y hy=>(hsteps y (List.mem_cons_of_mem _ hy)).fr hf1 hnP
 have hbox1:=hbox.fr hf1 fun hm=>hnP _ hm hpb
 have c1:=hB1.cell
 have f1:=hB1.frozen
 have l1:=hB1.lt
 obtain ⟨A,hA⟩:∃A,Hid (slAddr (some ⟨bk,off,none⟩) cap 1 1=A):=⟨_,hidIt rfl⟩
 rw [hA.out] at hs2 hcut
 have hs7:Fr [vb] w1 ((w1.setCell ⟨vb,1,none⟩ (.int .i64 0)).setCell ⟨vb,0,none⟩ (.slice A (rest.length) (cap - 1))):=((Fr.refl [vb] w1).setCell (p:=⟨vb,1,none⟩) (.inl (by simp)) _).setCell (p:=⟨vb,0,none⟩) (.inl (by simp)) _
 have hB2:Blk ((w1.setCell ⟨vb,1,none⟩ (.int .i64 0)).setCell ⟨vb,0,none⟩ (.slice A (rest.length) (cap - 1))) vb [.slice A (rest.length) (cap - 1),.int .i64 0] 290:=(hB1.setCell 1 (.int .i64 0)).setCell 0 (.slice A (rest.length) (cap - 1))
 have hv7:∀k∈[vb],¬P k:=fun k hk=>by rw [List.mem_singleton.1 hk];exact hpv
 have hs3:=SlF.fr hs2 hs7 fun k hk hm=>hv7 k hm (by rw [hA.out] at hsP';exact hsP' k hk)
 have hst2:StepsW _ P b0 rest:=fun y hy=>(hst1 y hy).fr hs7 hv7
 have hbox2:=hbox1.fr hs7 fun hm=>hv7 _ hm hpb
 have hS2:=hS1.fr hs7 (by simp;omega) (by simp;omega) (by simp;omega)
 have hob2:∀y,v'.ownBlock=some y→y ∉ [vb]:=fun y hy hm=>by
  have e:=List.mem_singleton.1 hm
  rcases hob1 y hy with h9 | h9
  ·exact (hvb y h9).2.2.2.1 e
  ·omega
 have hown2:=owns_fr hown1 hs7 hob2
 have hF2:Fr (vb :: sb :: nm :: v.ownBlock.toList) w _:=(hf1.mono (M:=vb :: sb :: nm :: v.ownBlock.toList) (fun y hy _=>List.mem_cons_of_mem _ hy)).trans' (hs7.mono (fun y hy _=>by rw [List.mem_singleton.1 hy];exact List.mem_cons_self))
 have hfin:=hidIt (And.intro hB2 (And.intro hs3 (And.intro hst2 (And.intro hbox2 (And.intro hS2 (And.intro hown2 hF2))))))
 have c2:=hB2.cell
 clear hs7 hB2 hs3 hst2 hbox2 hS2 hown2 hF2 hs2 hst1 hbox1 hs1 hs hB hbox hf1
 go_wp2_with fail
 go_quiet (fail)
 go_wp2
 go_ret2
 exact ⟨⟨_,rfl⟩,⟨⟨_,hfin.out.1.fr0 ((Fr.refl [] _).drewN _),SlF.fr0 hfin.out.2.1 ((Fr.refl [] _).drewN _),by rw [hA.out] at hsP';exact hsP'⟩,fun y hy=>(hfin.out.2.2.1 y hy).fr ((Fr.refl [] _).drewN _) (by simp),hfin.out.2.2.2.1.fr0 ((Fr.refl [] _).drewN _),hpb,hpv⟩,⟨_,_,hfin.out.2.2.2.2.1.fr0 ((Fr.refl [] _).drewN _),owns_drewN hfin.out.2.2.2.2.2.1 _,hob1⟩,hfin.out.2.2.2.2.2.2.drewN _⟩
end
section
variable {w w':World} {vb b0 tb base n:Nat} {sv xv:Value} {fvs:List Value}
def saAddPost (w:World) (vb b0 base n:Nat) (sv:Value) (fvs:List Value) (a:Nat) (xv:Value) (e:Ending) (w':World):Prop :=
 e=.returned (.tuple #[])∧∃sv' ba bx,Blk w' vb [sv',.int .i64 0] 290∧w'.ownsRow base 81 1 sv' (n+1) (fvs++[.func (.func 223) #[] #[.pointer (some ⟨b0,0,none⟩),.pointer (some ⟨ba,0,none⟩),.pointer (some ⟨bx,0,none⟩)]]) ∧
  Blk w' ba [.int .i64 (a:Int)] 3∧Blk w' bx [xv] 31∧w.heap.size≤ba∧w.heap.size≤bx∧Fr (vb :: sv.ownBlock.toList) w w'∧∀y,sv'.ownBlock=some y→sv.ownBlock=some y∨w.heap.size≤y∧y≠ba∧y≠bx
theorem saAdd_calls (a:Nat) (x:By) (hxv:SlY w xv x) (hT:Blk w tb [.pointer (some ⟨vb,0,none⟩)] 275) (hV:Blk w vb [sv,.int .i64 0] 290) (hown:w.ownsRow base 81 1 sv n fvs) (hb:base≤w.heap.size) (hn:n≤10000)
 (hvb:∀y,sv.ownBlock=some y→y≠vb∧y≠tb) :
 Calls Tryz.prog 222 #[.int .i64 (a:Int),xv,.pointer (some ⟨tb,0,none⟩),.pointer (some ⟨b0,0,none⟩)] w (saAddPost w vb b0 base n sv fvs a xv):=by
 obtain ⟨xa,xc,rfl,_⟩:=SlF.open hxv
 obtain ⟨W1,hW1⟩:∃W1,Hid ((w.alloc (Obj.cells #[.int .i64 (a:Int)] 3)).alloc (Obj.cells #[.slice xa x.length xc] 31)=W1):=⟨_,hidIt rfl⟩
 obtain ⟨bx,hbx⟩:∃y,Hid (w.heap.size+1=y):=⟨_,hidIt rfl⟩
 obtain ⟨ba,hba⟩:∃y,Hid (w.heap.size=y):=⟨_,hidIt rfl⟩
 have hF1:Fr [] w W1:=by rw [←hW1.out];exact ((Fr.refl [] w).alloc _).alloc _
 have A1:Blk W1 ba [.int .i64 (a:Int)] 3:=by
  rw [←hW1.out]
  exact (Blk.new' hba.out.symm [.int .i64 (a:Int)] _).alloc _
 have X1:Blk W1 bx [.slice xa x.length xc] 31:=by
  rw [←hW1.out]
  exact Blk.new' (by simp only [World.size_alloc];exact hbx.out.symm) [.slice xa x.length xc] _
 have hT1:=(hT.fr0 hF1).drew
 have hV1:=(hV.fr0 hF1).drew
 have hown1:=owns_drew (owns_fr hown hF1 (by simp))
 have A1d:=A1.drew
 have X1d:=X1.drew
 have hz1:=hF1.size
 have hlt:=hown.lt
 have nvb:vb ∉ sv.ownBlock.toList:=fun hm=>(hvb vb (by simpa using hm)).1 rfl
 have ntb:tb ∉ sv.ownBlock.toList:=fun hm=>(hvb tb (by simpa using hm)).2 rfl
 have nba:ba ∉ sv.ownBlock.toList:=fun hm=>by have:=(hlt ba (by simpa using hm)).2;have:=hba.out;omega
 have nbx:bx ∉ sv.ownBlock.toList:=fun hm=>by have:=(hlt bx (by simpa using hm)).2;have:=hbx.out;omega
 have lA:w.heap.size≤ba:=by rw [hba.out];exact Nat.le_refl _
 have lX:w.heap.size≤bx:=by have:=hbx.out;omega
 have lV:=hV.lt
 have lTs:=hT.lt
 go_enter Tryz.func222,Tryz.ntmps222
 go_wp2_with fail
 rw [hW1.out,hbx.out,hba.out]
 clear hW1 hbx hba A1 X1
 refine wp_region_Z 10 (Fr sv.ownBlock.toList W1.drew) [(true,0),(true,1),(true,2),(true,3),(true,4),(true,5),(false,6),(false,7),(false,8),(true,9)] (by as_aux_lemma=>kernel_rfl) (by as_aux_lemma=>kernel_rfl) (Fr.refl _ _) ?_
 simp only [inOrder,jD,jE,jF,jG]
 refine wpG_val (.pointer (some ⟨vb,0,none⟩)) (by first | rfl | go_simp) (fun X hX=>by have cc:=(hT1.fr hX ntb).cell;go_simp) ?_
 simp only [Act.put,jA,jB,jC]
 refine wpG_val (.pointer (some ⟨vb,0,none⟩)) (by first | rfl | go_simp) (fun X hX=>by have cc:=(hT1.fr hX ntb).cell;go_simp) ?_
 simp only [Act.put,jA,jB,jC]
 iterate 2 (refine wpG_pure fun K hK=>?_;go_simp;refine hK _ ?_;clear hK K)
 refine wpG_val (sv) (by first | rfl | go_simp) (fun X hX=>by have cc:=(hV1.fr hX nvb).cell;go_simp) ?_
 simp only [Act.put,jA,jB,jC]
 iterate 1 (refine wpG_pure fun K hK=>?_;go_simp;refine hK _ ?_;clear hK K)
 refine wpG_one fun K hK=>?_
 go_simp
 refine hK _ _ (((Fr.refl [] W1.drew).alloc _).weak) ?_
 clear hK K
 refine wpG_list rfl (fun _ _ h=>h) fun K hK=>?_
 refine wpList_append1 288 81 _ 1 8 Tryz.underlying288 infoF rfl (by decide) (by decide) rfl _ _ rfl base sv n _ rfl (hown1.alloc _) [.func (.func 223) #[] #[.pointer (some ⟨b0,0,none⟩),.pointer (some ⟨ba,0,none⟩),.pointer (some ⟨bx,0,none⟩)]] rfl (by intro y hy;rw [List.mem_singleton.1 hy];rfl) W1.heap.size rfl (by first | exact Blk.new W1.drew [_] _ | exact (Blk.new W1 [_] _).drew) (by omega) (by simp;omega) ?_
 intro v' w7 hown7 hgrow7 hloc7
 have hF7:Fr sv.ownBlock.toList W1.drew w7:=((Fr.refl [] W1.drew).alloc _).weak.trans' (Fr.of_grown hgrow7)
 refine hK _ (fun _ h=>h) _ _ hF7 ?_
 clear hK K
 have h57:=hV1.fr hF7 nvb
 have A7:=A1d.fr hF7 nba
 have X7:=X1d.fr hF7 nbx
 have c5:=h57.cell
 have f5:=h57.frozen
 have l5:=h57.lt
 have lA1:=A1d.lt
 have lX1:=X1d.lt
 have hl7:∀y,v'.ownBlock=some y→sv.ownBlock=some y∨w.heap.size≤y∧y≠ba∧y≠bx:=fun y hy=>by
  rcases hloc7 with h | h
  ·left;rw [←h,hy]
  ·right;rw [h] at hy;injection hy with hy;simp at hy lA1 lX1;omega
 obtain ⟨a7,c7,rfl,_⟩:=Sl.of_owns hown7
 refine wpG_one fun K hK=>?_
 go_simp
 refine hK _ _ hF7 ?_
 clear hK K
 iterate 1 (refine wpG_pure fun K hK=>?_;go_simp;refine hK _ ?_;clear hK K)
 refine wpG_last fun K hK=>?_
 go_simp
 refine hK _ _ ?_
 clear hK K
 have hs7:Fr [vb] w7 (w7.setCell ⟨vb,0,none⟩ (.slice a7 (n+1) c7)):=(Fr.refl _ w7).setCell (.inl (by simp)) _
 have hB9:=h57.setCell 0 (.slice a7 (n+1) c7)
 have hown9:=owns_fr hown7 hs7 (fun y hy hm=>by
  have e:=List.mem_singleton.1 hm
  rw [e] at hy
  rcases hloc7 with h9 | h9
  ·exact nvb (by rw [←h9,hy];simp)
  ·rw [h9] at hy;injection hy with hy;simp at hy;omega)
 have A9:=A7.fr hs7 (by simp;omega)
 have X9:=X7.fr hs7 (by simp;omega)
 have hF9:Fr (vb :: sv.ownBlock.toList) w (w7.setCell ⟨vb,0,none⟩ (.slice a7 (n+1) c7)):=((hF1.weak.trans' ((Fr.refl [] W1).drew.weak)).trans' (hF7.mono (fun y hy _=>List.mem_cons_of_mem _ hy))).trans' (hs7.mono (fun y hy _=>by rw [List.mem_singleton.1 hy];exact List.mem_cons_self))
 have hfin:=hidIt (And.intro hB9 (And.intro hown9 (And.intro A9 (And.intro X9 hF9))))
 clear hs7 hB9 hown9 A9 X9 hF9 hown7 h57 c5 f5 l5 hloc7 hF7 hgrow7
 go_wp2
 exact bodyPost_end (v:=.tuple #[]) (results_none rfl _ _ _) rfl ⟨rfl,_,ba,bx,hfin.out.1,hfin.out.2.1,hfin.out.2.2.1,hfin.out.2.2.2.1,lA,lX,hfin.out.2.2.2.2,hl7⟩
end
end Go.Proofs.YtffnihooekbcnaaGreat
