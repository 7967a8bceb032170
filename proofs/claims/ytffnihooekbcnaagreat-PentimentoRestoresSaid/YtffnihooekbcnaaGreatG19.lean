/-
  A push in memory; package push: Over, Done, copy.
-/
import Derived.Test.YtffnihooekbcnaaGreatG16
import Derived.Test.YtffnihooekbcnaaGreatKeyI
import Derived.Test.YtffnihooekbcnaaGreatMinI
import Derived.Test.YtffnihooekbcnaaGreatG18
import Derived.Test.YtffnihooekbcnaaGreatG17
set_option linter.unusedVariables false
set_option maxRecDepth 100000
set_option maxHeartbeats 6400000
namespace Go.Proofs.YtffnihooekbcnaaGreat
open Go.RowKit Go.Maps
attribute [local go_sem] mapAt_alloc mapAt_setCell mapAt_drew mapAt_drewN cells_str store_str eql_str neq_str guard_str len_str
abbrev Got:=Nat→Option (By × Value)
def gotM (G:Got):Value→Option Value:=fun x=>match x with | .int .i64 k=>if 0≤k then (G k.toNat).map (·.2) else none | _=>none
theorem gotM_int (G:Got) (k:Nat):gotM G (.int .i64 (k:Int))=(G k).map (·.2):=by
 show (if 0≤(k:Int) then (G (k:Int).toNat).map (·.2) else none)=_
 rw [if_pos (by omega),Int.toNat_natCast]
theorem gotM_none:gotM (fun _=>none)=fun _=>none:=by
 funext x
 unfold gotM
 split
 ·split <;> rfl
 ·rfl
def putG {α:Type} (G:Nat→Option α) (k:Nat) (x:α):Nat→Option α:=fun j=>if j=k then some x else G j
theorem gotM_put (G:Got) (k:Nat) (x:By × Value):upd (gotM G) (.int .i64 (k:Int)) (some x.2)=gotM (putG G k x):=by
 funext y
 unfold upd
 by_cases e:y=.int .i64 (k:Int)
 ·subst e
  rw [if_pos rfl,gotM_int]
  simp [putG]
 ·rw [if_neg e]
  unfold gotM
  split
  ·rename_i j
   split
   ·rename_i h
    have:j.toNat≠k:=fun h1=>e (by rw [←h1,Int.toNat_of_nonneg h])
    simp [putG,this]
   ·rfl
  ·rfl
def unG (G:Got):Nat→Option By:=fun k=>(G k).map (·.1)
theorem unG_put (G:Got) (k:Nat) (x:By × Value):unG (putG G k x)=putG (unG G) k x.1:=by
 funext j
 unfold unG putG
 split <;> rfl
structure GotW (w:World) (gm n:Nat) (o:Nat→Prop) (G:Got):Prop where
 map:∃es clock,mapAt w gm=some (es,clock)∧IsM Tryz.prog 3 es clock (gotM G)
 sup:∀k x,G k=some x→k<n
 byt:∀k x,G k=some x→SlY w x.2 x.1∧inO o x.2∧okV x.2
section
variable {w w':World} {gm n:Nat} {o o':Nat→Prop} {G:Got}
theorem GotW.fr {M:List Nat} (h:GotW w gm n o G) (hf:Fr M w w') (h1:gm ∉ M) (h2:∀k∈M,¬o k):GotW w' gm n o G:=by
 obtain ⟨es,c,hm,hi⟩:=h.map
 exact ⟨⟨es,c,mapAt_fr hm hf h1,hi⟩,h.sup,fun k x hx=>⟨SlF.fr (h.byt k x hx).1 hf fun q hq hm=>h2 q hm ((h.byt k x hx).2.1 q hq),(h.byt k x hx).2⟩⟩
theorem GotW.fr0 (h:GotW w gm n o G) (hf:Fr [] w w'):GotW w' gm n o G:=h.fr hf (by simp) (by simp)
theorem GotW.mono (h:GotW w gm n o G) (ho:∀k,o k→o' k):GotW w gm n o' G:=⟨h.map,h.sup,fun k x hx=>⟨(h.byt k x hx).1,fun q hq=>ho q ((h.byt k x hx).2.1 q hq),(h.byt k x hx).2.2⟩⟩
theorem GotW.lt (h:GotW w gm n o G):gm<w.heap.size:=by obtain ⟨es,c,hm,_⟩:=h.map;exact mapAt_lt hm
theorem GotW.new (w:World) (n:Nat) (o:Nat→Prop):GotW (w.alloc (Obj.map #[] 0)) w.heap.size n o fun _=>none :=
 ⟨⟨#[],0,by rw [mapAt_some];exact heap_alloc_new w _,by rw [gotM_none];exact IsM.empty⟩,fun _ _ h=>(by cases h),fun _ _ h=>(by cases h)⟩
theorem GotW.put (h:GotW w gm n o G) {k:Nat} (hk:k<n) (hn:n≤1000000) {x:By × Value} (h1:SlY w x.2 x.1) (h2:inO o x.2) (h3:okV x.2) (hg:¬o gm) :
 ∃w',(Instr.mapUpdate 157 (.map (some gm)) (.int .i64 (k:Int)) x.2).run Tryz.prog w=.ok () w'∧GotW w' gm n o (putG G k x)∧Fr [gm] w w':=by
 obtain ⟨es,c,hm,hi⟩:=h.map
 obtain ⟨es',c',hr,hi'⟩:=run_mapUpdate_isM (P:=Tryz.prog) Tryz.underlying157 bKeyInt hi (bKeyI (k:=(k:Int)) (by omega) (by omega)) x.2 w hm
 rw [gotM_put] at hi'
 have hf:=putMap_fr w gm es' c'
 have hM:∀q∈[gm],¬o q:=fun q hq=>by rw [List.mem_singleton.1 hq];exact hg
 refine ⟨_,hr,⟨⟨es',c',mapAt_putMap (mapAt_lt hm) es' c',hi'⟩,fun j y hj=>?_,fun j y hj=>?_⟩,hf⟩
 ·unfold putG at hj
  split at hj
  ·rename_i e;rw [e];exact hk
  ·exact h.sup j y hj
 ·unfold putG at hj
  split at hj
  ·cases hj
   exact ⟨SlF.fr h1 hf fun q hq hm=>hM q hm (h2 q hq),h2,h3⟩
  ·obtain ⟨g1,g2,g3⟩:=h.byt j y hj
   exact ⟨SlF.fr g1 hf fun q hq hm=>hM q hm (g2 q hq),g2,g3⟩
theorem GotW.size (h:GotW w gm n o G):∃m:Nat,m≤n∧∀ty:TypeId,(Builtin.len_ #[157] ty #[.map (some gm)]).run Tryz.prog w=.ok (.int .i64 (m:Int)) w:=by
 obtain ⟨es,c,hm,hi⟩:=h.map
 have hs:=hi.size (ks:=((List.range n).filter fun k=>(G k).isSome).map fun (k:Nat)=>Value.int .i64 (k:Int)) ?_ ?_
 ·refine ⟨es.size,?_,fun ty=>run_len_map Tryz.underlying157 w hm⟩
  rw [hs,List.length_map]
  exact Nat.le_trans (List.length_filter_le _ _) (by simp)
 ·rw [List.pairwise_map]
  exact (List.nodup_range.filter _).imp fun {a b} h e=>h (by injection e with _ e;omega)
 ·intro x
  rw [List.mem_map]
  constructor
  ·rintro ⟨k,hk,rfl⟩
   rw [gotM_int]
   have:=(List.mem_filter.1 hk).2
   cases e:G k with
   | none=>rw [e] at this;cases this
   | some y=>rfl
  ·intro hx
   unfold gotM at hx
   split at hx
   ·rename_i j
    split at hx
    ·rename_i hj
     cases e:G j.toNat with
     | none=>rw [e] at hx;cases hx
     | some y=>exact ⟨j.toNat,List.mem_filter.2 ⟨List.mem_range.2 (h.sup _ y e),by rw [e];rfl⟩,by rw [Int.toNat_of_nonneg hj]⟩
    ·cases hx
   ·cases hx
theorem SetW.del {mp:Nat} {l:List Bool} (h:SetW w mp l) {k:Nat} (hk:k<l.length) (hl:l.length≤1000000):∃w',(∀ty,(Builtin.delete_ #[138,3] ty #[.map (some mp),.int .i64 (k:Int)]).run Tryz.prog w=.ok (.tuple #[]) w')∧SetW w' mp (l.set k false)∧Fr [mp] w w':=by
 obtain ⟨es,c,hm,hi⟩:=h
 obtain ⟨es',hr,hi',_⟩:=run_delete_isM (P:=Tryz.prog) (A2:=3) (ty:=0) Tryz.underlying138 bKeyInt hi (bKeyI (k:=(k:Int)) (by omega) (by omega)) w hm
 replace hr:∀ty,(Builtin.delete_ #[138,3] ty #[.map (some mp),.int .i64 (k:Int)]).run Tryz.prog w=.ok (.tuple #[]) (putMap w mp es' c):=fun ty=>hr
 have:=bitM_set (l:=l) false hk
 rw [if_neg (by decide)] at this
 rw [←this] at hi'
 exact ⟨_,hr,⟨es',c,mapAt_putMap (mapAt_lt hm) es' c,hi'⟩,putMap_fr w mp es' c⟩
end
def pushC (cb lm gm n:Nat) (s:By) (over done:Bool):List Value:=[.pointer (some ⟨cb,0,none⟩),strL s,.int .i64 1,.int .i64 (n:Int),.int .i64 9,.map (some lm),.map (some gm),.bool over,.bool done]
structure PshW (w:World) (jb lm gm cb n:Nat) (s:By) (o:Nat→Prop) (l:List Bool) (G:Got) (over done:Bool):Prop where
 blk:Blk w jb (pushC cb lm gm n s over done) 159
 left:SetW w lm l
 got:GotW w gm n o G
 len:l.length=n
 ne:jb≠lm∧jb≠gm∧lm≠gm
 no:¬o jb∧¬o lm∧¬o gm
 low:∀k,o k→k<w.heap.size
def phO (jb lm gm:Nat) (o:Nat→Prop) (k:Nat):Prop:=k=jb∨k=lm∨k=gm∨o k
section
variable {w w':World} {jb lm gm cb n:Nat} {s:By} {o:Nat→Prop} {l:List Bool} {G:Got} {over done:Bool}
theorem PshW.fr {M:List Nat} (h:PshW w jb lm gm cb n s o l G over done) (hf:Fr M w w') (hM:∀k∈M,¬phO jb lm gm o k):PshW w' jb lm gm cb n s o l G over done :=
 ⟨h.blk.fr hf fun hm=>hM _ hm (.inl rfl),h.left.fr hf fun hm=>hM _ hm (.inr (.inl rfl)),h.got.fr hf (fun hm=>hM _ hm (.inr (.inr (.inl rfl)))) fun k hk ho=>hM k hk (.inr (.inr (.inr ho))),h.len,h.ne,h.no,fun k hk=>Nat.lt_of_lt_of_le (h.low k hk) hf.size⟩
theorem PshW.fr0 (h:PshW w jb lm gm cb n s o l G over done) (hf:Fr [] w w'):PshW w' jb lm gm cb n s o l G over done:=h.fr hf (by simp)
theorem PshW.lt (h:PshW w jb lm gm cb n s o l G over done) {k:Nat} (hk:phO jb lm gm o k):k<w.heap.size:=by
 rcases hk with rfl | rfl | rfl | hk
 ·exact h.blk.lt
 ·exact h.left.lt
 ·exact h.got.lt
 ·exact h.low k hk
theorem phOver_calls (h:PshW w jb lm gm cb n s o l G over done):Calls Tryz.prog 290 #[.pointer (some ⟨jb,0,none⟩)] w fun e w'=>e=.returned (.bool over)∧w'=w:=by
 have c:=h.blk.cell
 unfold pushC at c
 go_enter Tryz.func290,Tryz.ntmps290
 go_wp2
 go_ret
 exact ⟨rfl,rfl⟩
theorem phDone_calls (h:PshW w jb lm gm cb n s o l G over done):Calls Tryz.prog 57 #[.pointer (some ⟨jb,0,none⟩)] w fun e w'=>e=.returned (.bool done)∧w'=w:=by
 have c:=h.blk.cell
 unfold pushC at c
 go_enter Tryz.func57,Tryz.ntmps57
 go_wp2
 go_ret
 exact ⟨rfl,rfl⟩
end
section
variable {w w':World} {jb lm gm cb mb n room:Nat} {s:By} {p:List By} {o:Nat→Prop} {l:List Bool} {G:Got} {L:List Cd}
def phCopyPost (w:World) (jb lm gm cb n:Nat) (s:By) (o:Nat→Prop) (l:List Bool) (G:Got) (k:Nat) (x:By) (e:Ending) (w':World):Prop :=
 e=.returned (.int .i64 0)∧∃o' v,PshW w' jb lm gm cb n s o' (l.set k false) (putG G k (x,v)) false false∧(∀q,o' q→o q∨w.heap.size≤q)∧Fr [lm,gm] w w'
theorem phCopy_calls (k:Nat) (hJ:PshW w jb lm gm cb n s o l G false false) (hk:k<n) (hn8:n≤8)
 (h:ChG noEx w cb mb 1 room L) (hI:ImsK n L) (hp:IsPath (L.map (·.x)) s p) (hn:∀c∈L,c.nm.length≤maxLen) (hp8:p.length≤64) :
 Calls Tryz.prog 132 #[.pointer (some ⟨jb,0,none⟩),.int .i64 (k:Int)] w (phCopyPost w jb lm gm cb n s o l G k (viewK L n s p k)):=by
 have kC:=fun X (hX:Fr [] w X)=>chCluster_calls s p n k (h.fr0 hX) hI hp hn hp8 (by omega)
 unfold viewPost at kC
 have hx:(viewK L n s p k).length=32:=by
  unfold viewK
  rw [if_pos hk]
  exact seenC_len hI.z _ _
 generalize viewK L n s p k=x at *
 clear h hI hp hn
 have hd:=(Fr.refl [] w).drew
 have hJ1:=hJ.fr0 hd
 have hj:=fun X (hX:Fr [] w X)=>(hJ.fr0 hX).blk.cell
 unfold pushC at hj
 obtain ⟨S,hS⟩:∃S,Hid (strL s=Value.string S):=⟨_,hidIt rfl⟩
 rw [hS.out] at kC
 simp only [hS.out] at hj
 go_enter Tryz.func132,Tryz.ntmps132
 go_wp2_with fail
 obtain ⟨m,hm,hsz⟩:=hJ1.got.size
 have hm9:¬(9:Int)≤(m:Int):=by omega
 refine wp_region_G (fun X=>X=w.drew) [(true,0),(true,1),(true,2),(true,3),(true,4),(true,5),(true,6),(true,7),(true,8),(true,9)] (by as_aux_lemma=>kernel_rfl) (by as_aux_lemma=>kernel_rfl) (rfl) ?_
 simp only [inOrder,jD,jE,jF,jG]
 iterate 3 (refine wpG_pure fun K hK=>?_;go_simp;refine hK _ ?_;clear hK K)
 refine wpG_val (.map (some gm)) (by first | rfl | go_simp) (fun X hX=>by subst hX;have cc:=hj _ hd;go_simp) ?_
 simp only [Act.put,jA,jB,jC]
 refine wpG_val (.int .i64 (m:Int)) (by first | rfl | go_simp) (fun X hX=>by subst hX;go_simp) ?_
 simp only [Act.put,jA,jB,jC]
 iterate 3 (refine wpG_pure fun K hK=>?_;go_simp;refine hK _ ?_;clear hK K)
 refine wpG_val (.int .i64 9) (by first | rfl | go_simp) (fun X hX=>by subst hX;have cc:=hj _ hd;go_simp) ?_
 simp only [Act.put,jA,jB,jC]
 iterate 1 (refine wpG_pure fun K hK=>?_;go_simp;refine hK _ ?_;clear hK K)
 refine wpG_end ?_
 clear hsz
 have hd2:=hd.drew
 go_wp2_with fail
 refine wp_region_Z 15 (Fr [] w.drew.drew) [(true,0),(true,1),(true,2),(true,3),(true,4),(true,5),(true,6),(true,7),(true,8),(true,9),(true,10),(true,11),(true,12),(true,13),(false,14)] (by as_aux_lemma=>kernel_rfl) (by as_aux_lemma=>kernel_rfl) (Fr.refl _ _) ?_
 simp only [inOrder,jD,jE,jF,jG]
 iterate 3 (refine wpG_pure fun K hK=>?_;go_simp;refine hK _ ?_;clear hK K)
 refine wpG_val (.map (some gm)) (by first | rfl | go_simp) (fun X hX=>by have cc:=hj _ (hd2.trans0 hX);go_simp) ?_
 simp only [Act.put,jA,jB,jC]
 iterate 4 (refine wpG_pure fun K hK=>?_;go_simp;refine hK _ ?_;clear hK K)
 refine wpG_val (.pointer (some ⟨cb,0,none⟩)) (by first | rfl | go_simp) (fun X hX=>by have cc:=hj _ (hd2.trans0 hX);go_simp) ?_
 simp only [Act.put,jA,jB,jC]
 iterate 3 (refine wpG_pure fun K hK=>?_;go_simp;refine hK _ ?_;clear hK K)
 refine wpG_val (.string S) (by first | rfl | go_simp) (fun X hX=>by have cc:=hj _ (hd2.trans0 hX);go_simp) ?_
 simp only [Act.put,jA,jB,jC]
 iterate 1 (refine wpG_pure fun K hK=>?_;go_simp;refine hK _ ?_;clear hK K)
 refine wpG_one fun K hK=>?_
 go_simp
 refine (kC _ hd2).mono ?_
 rintro e w4 ⟨v,rfl,hv,hvo,hvn,hf4⟩
 refine hK _ _ (hf4) ?_
 clear hK K
 refine wpG_last fun K hK=>?_
 go_simp
 have hz4:=hf4.size
 have hdz:w.drew.drew.heap.size=w.heap.size:=rfl
 have hJ4:=hJ.fr0 (hd2.trans0 hf4)
 have hv4:∀q,o q→q<w.heap.size:=hJ.low
 have hgl:=hJ.lt (k:=gm) (.inr (.inr (.inl rfl)))
 have hjl:=hJ.lt (k:=jb) (.inl rfl)
 have hll:=hJ.lt (k:=lm) (.inr (.inl rfl))
 obtain ⟨hno1,hno2,hno3⟩:=hJ.no
 obtain ⟨hne1,hne2,hne3⟩:=hJ.ne
 obtain ⟨w5,hr5,hG5,hf5⟩:=(hJ4.got.mono (o':=fun q=>o q∨(w.heap.size≤q∧q<w4.heap.size)) (fun q hq=>.inl hq)).put hk (by omega) (x:=(x,v)) hv (fun q hq=>.inr ⟨by have:=hvn q hq;omega,hv.lt (by rw [flatY_length,hx];decide) q hq⟩) hvo (fun h9=>h9.elim hno3 (by omega))
 have hr5':(Instr.mapUpdate 157 (.map (some gm)) (.int .i64 (k:Int)) v).run Tryz.prog w4=_:=hr5
 rw [hr5']
 clear hr5'
 go_simp
 refine hK _ _ ?_
 clear hK K
 have hF5:Fr [gm] w w5:=(hd2.trans0 hf4).weak.trans' hf5
 obtain ⟨w6,hr6,hL6,hf6⟩:=(hJ.left.fr hF5 (by simp;omega)).del (k:=k) (by rw [hJ.len];exact hk) (by rw [hJ.len];omega)
 have hF6:Fr [lm,gm] w w6:=(hF5.mono (fun q hq _=>by simp at hq ⊢;exact .inr hq)).trans' (hf6.mono (fun q hq _=>by simp at hq ⊢;exact .inl hq))
 have cj5:=(hJ.blk.fr hF5 (by simp;omega)).cell
 unfold pushC at cj5
 have hfin:=hidIt (show PshW w6 jb lm gm cb n s (fun q=>o q∨(w.heap.size≤q∧q<w4.heap.size)) (l.set k false) (putG G k (x,v)) false false from ⟨hJ.blk.fr hF6 (by simp;omega),hL6,hG5.fr hf6 (by simp;omega) (fun q hq=>by
  rw [List.mem_singleton.1 hq]
  rintro (h | h)
  ·exact hno2 h
  ·omega),by rw [List.length_set];exact hJ.len,hJ.ne,⟨fun h9=>h9.elim hno1 (by omega),fun h9=>h9.elim hno2 (by omega),fun h9=>h9.elim hno3 (by omega)⟩,fun q hq=>by
  have:=hF6.size
  have:=hf5.size
  have:=hf6.size
  rcases hq with h | h
  ·have:=hv4 q h;omega
  ·omega⟩)
 replace hF6:=hidIt hF6
 clear hJ hJ1 hJ4 hd hd2 hj kC hv hG5 hL6 hf4 hf5 hf6 hF5 hS hr5 hvn
 go_wp2
 go_ret
 refine ⟨rfl,_,v,hfin.out,fun q hq=>?_,hF6.out⟩
 rcases hq with h9 | h9
 ·exact .inl h9
 ·exact .inr h9.1
end
def onL (l:List Bool):List Nat:=(List.range l.length).filter fun k=>l.getD k false
theorem onL_mem {l:List Bool} {k:Nat}:k∈onL l ↔ l.getD k false=true:=by
 unfold onL
 rw [List.mem_filter,List.mem_range]
 refine ⟨fun h=>by simpa using h.2,fun h=>⟨?_,by simpa using h⟩⟩
 by_cases hk:k<l.length
 ·exact hk
 ·rw [List.getD_eq_getElem?_getD,List.getElem?_eq_none (by omega)] at h
  cases h
theorem onL_lt {l:List Bool} {k:Nat} (h:k∈onL l):k<l.length:=List.mem_range.1 (List.mem_filter.1 h).1
theorem onL_sorted (l:List Bool):((onL l).map fun (k:Nat)=>(k:Int)).Pairwise (·<·):=by
 rw [List.pairwise_map]
 exact (List.Pairwise.filter _ List.pairwise_lt_range).imp fun {a b} h=>by omega
theorem onL_bit (l:List Bool) (k:Int):k∈((onL l).map fun (k:Nat)=>(k:Int)) ↔ (bitM l (.int .i64 k)).isSome=true:=by
 rw [bitM_int,List.mem_map]
 constructor
 ·rintro ⟨j,hj,rfl⟩
  rw [if_pos ⟨by omega,by rw [Int.toNat_natCast];exact onL_mem.1 hj⟩]
  rfl
 ·intro h
  by_cases hc:0≤k∧l.getD k.toNat false=true
  ·exact ⟨k.toNat,onL_mem.2 hc.2,by omega⟩
  ·rw [if_neg hc] at h;cases h
theorem onL_cnt (l:List Bool):(onL l).length=cnt l:=rfl
def turnP (V:Nat→By) (t:Nat→Bool) (s:List Bool × (Nat→Option By)) (k:Nat):List Bool × (Nat→Option By):=if t k=true then (s.1.set k false,putG s.2 k (V k)) else s
def turnsP (V:Nat→By) (t:Nat→Bool) (ks:List Nat) (s:List Bool × (Nat→Option By)):=ks.foldl (turnP V t) s
theorem turnsP_len (V:Nat→By) (t:Nat→Bool):∀(ks:List Nat) (s:List Bool × (Nat→Option By)),(turnsP V t ks s).1.length=s.1.length
 | [],_=>rfl
 | k :: ks,s=>by
   show (turnsP V t ks (turnP V t s k)).1.length=_
   rw [turnsP_len V t ks]
   unfold turnP
   split <;> simp
theorem turnsP_at (V:Nat→By) (t:Nat→Bool) (j:Nat):∀(ks:List Nat) (s:List Bool × (Nat→Option By)),(∀k∈ks,k<s.1.length) →
 (turnsP V t ks s).1.getD j false=(s.1.getD j false && !(t j && decide (j∈ks)))∧(turnsP V t ks s).2 j=if (t j && decide (j∈ks))=true then some (V j) else s.2 j
 | [],s,_=>by simp [turnsP]
 | k :: ks,s,h=>by
   have ih:=turnsP_at V t j ks (turnP V t s k) fun q hq=>by
    have:=h q (List.mem_cons_of_mem _ hq)
    unfold turnP
    split <;> simpa using this
   show (turnsP V t ks (turnP V t s k)).1.getD j false=_∧(turnsP V t ks (turnP V t s k)).2 j=_
   rw [ih.1,ih.2]
   have hk:=h k List.mem_cons_self
   unfold turnP
   by_cases e:j=k
   ·subst e
    cases ht:t j with
    | false=>simp
    | true=>simp [List.getD_eq_getElem?_getD,hk,putG]
   ·have e':¬k=j:=fun h=>e h.symm
    cases ht:t k with
    | false=>simp [e]
    | true=>simp [List.getD_eq_getElem?_getD,List.getElem?_set_ne e',putG,e]
theorem turnsP_more (V:Nat→By) (t:Nat→Bool) (ks:List Nat) (s:List Bool × (Nat→Option By)) (i k:Nat) (h:ks[i]? = some k):turnsP V t (ks.take (i+1)) s=turnP V t (turnsP V t (ks.take i) s) k:=by
 unfold turnsP
 rw [List.take_add_one,h,List.foldl_append]
 rfl
def befP (V:Nat→By) (t:Nat→Bool) (l:List Bool) (G:Nat→Option By):List Bool × (Nat→Option By):=turnsP V t (onL l) (l,G)
theorem befP_len (V:Nat→By) (t:Nat→Bool) (l:List Bool) (G:Nat→Option By):(befP V t l G).1.length=l.length:=turnsP_len _ _ _ _
theorem befP_at (V:Nat→By) (t:Nat→Bool) (l:List Bool) (G:Nat→Option By) (j:Nat):(befP V t l G).1.getD j false=(l.getD j false && !t j)∧(befP V t l G).2 j=if (t j && l.getD j false)=true then some (V j) else G j:=by
 have h:=turnsP_at V t j (onL l) (l,G) fun k hk=>onL_lt hk
 unfold befP
 rw [h.1,h.2]
 have e:decide (j∈onL l)=l.getD j false:=by
  cases hg:l.getD j false with
  | true=>exact decide_eq_true (onL_mem.2 hg)
  | false=>exact decide_eq_false fun hm=>by rw [onL_mem.1 hm] at hg;cases hg
 rw [e]
 cases l.getD j false <;> cases t j <;> simp
section
variable {w w':World} {jb lm gm cb mb n room:Nat} {s:By} {p:List By} {o:Nat→Prop} {l:List Bool} {G:Got} {L:List Cd} {over done:Bool}
theorem SetW.card {mp:Nat} (h:SetW w mp l) (ty:TypeId):(Builtin.len_ #[138] ty #[.map (some mp)]).run Tryz.prog w=.ok (.int .i64 (cnt l:Int)) w:=by
 obtain ⟨es,c,hm,hi⟩:=h
 rw [←cnt_size hi]
 exact run_len_map Tryz.underlying138 w hm
theorem leftSorted_calls {lm:Nat} (h:SetW w lm l) (hl:l.length≤256) (bm:Nat) (hB:Blk w bm [.map (some lm)] 138):Calls Tryz.prog 133 #[.func (.func 178) #[] #[.pointer (some ⟨bm,0,none⟩)]] w fun e w'=>∃v,e=.returned v∧SlI w' v ((onL l).map fun (k:Nat)=>(k:Int))∧Fr [] w w'∧∀k,v.ownBlock=some k→w.heap.size≤k:=by
 obtain ⟨es,c,hm,hi⟩:=h
 exact sortedM_calls bm lm 4096 w (hB.cell 0) hB.lt hm hi (by rw [cnt_size hi];have:=cnt_le l;omega) (by decide) _ (onL_sorted l) (onL_bit l)
theorem leftCollect_calls {lm:Nat} (h:SetW w lm l) (hl:l.length≤256) (bm:Nat) (hB:Blk w bm [.map (some lm)] 138):Calls Tryz.prog 176 #[.func (.func 178) #[] #[.pointer (some ⟨bm,0,none⟩)]] w fun e w'=>∃v ss,e=.returned v∧ss.Perm ((onL l).map fun (k:Nat)=>(k:Int))∧SlI w' v ss∧Fr [] w w'∧∀k,v.ownBlock=some k→w.heap.size≤k:=by
 obtain ⟨es,c,hm,hi⟩:=h
 exact collectM_calls bm lm 4096 w (hB.cell 0) hB.lt hm hi (by rw [cnt_size hi];have:=cnt_le l;omega) (by decide) _ (onL_sorted l) (onL_bit l)
end
def chM (cb mb jb mp:Nat) (L:List Cd) (k:Nat):Prop:=(chO cb mb L k∨k=jb)∨k=mp
section
variable {w w':World} {cb mb room jb mp:Nat} {L:List Cd} {s b:By} {l:List Bool} {o:Bool}
theorem StepO.set {o o':Nat→Prop} (h:StepO w o w' o') {mp:Nat} (hb:SetW w mp l) (hk:¬o mp):SetW w' mp l:=by
 obtain ⟨M,hf,hM⟩:=h.fr
 exact hb.fr hf fun hm=>hk (hM mp hm hb.lt)
def mgRes (cB:Cd) (D:List Dk) (n:Nat) (s b:By) (r:List By) (k:Nat):Int × Img :=
 if kindD D s k=1 then writeE cB.x.M ((k*2:Nat):Int) (seenC D 32 (s :: b :: r) k) (belL D n r) else zeroE cB.x.M ((k*2:Nat):Int) 2 (belL D n r)
def mStepPost (w:World) (cb mb room jb mp n:Nat) (L:List Cd) (s b:By) (r:List By) (c cB:Cd) (l:List Bool) (e:Ending) (w':World):Prop :=
 (cnt l=0∧e=.returned (.tuple #[.bool true,.int .i64 0])∧∃p',ChG noEx w' cb mb 1 room (setK L s p' (discardE c.x.M 0 ((n:Int)*2)).2)∧MgW w' jb cb mp s b (List.replicate l.length false) true∧StepO w (chM cb mb jb mp L) w' (chM cb mb jb mp (setK L s p' (discardE c.x.M 0 ((n:Int)*2)).2))∧¬chO cb mb (setK L s p' (discardE c.x.M 0 ((n:Int)*2)).2) jb∧¬chO cb mb (setK L s p' (discardE c.x.M 0 ((n:Int)*2)).2) mp) ∨
 (∃k∈onL l,kindD (L.map (·.x)) s k≠0∧e=.returned (.tuple #[.bool false,.int .i64 (mgRes cB (L.map (·.x)) n s b r k).1])∧∃p',ChG noEx w' cb mb 1 room (setK L b p' (mgRes cB (L.map (·.x)) n s b r k).2) ∧
   MgW w' jb cb mp s b (if (mgRes cB (L.map (·.x)) n s b r k).1=0 then l.set k false else l) false∧StepO w (chM cb mb jb mp L) w' (chM cb mb jb mp (setK L b p' (mgRes cB (L.map (·.x)) n s b r k).2))∧¬chO cb mb (setK L b p' (mgRes cB (L.map (·.x)) n s b r k).2) jb∧¬chO cb mb (setK L b p' (mgRes cB (L.map (·.x)) n s b r k).2) mp) ∨
 (∃k∈onL l,kindD (L.map (·.x)) s k=0∧e=.returned (.tuple #[.bool false,.int .i64 0])∧ChG noEx w' cb mb 1 room L∧MgW w' jb cb mp s b (l.set k false) false∧StepO w (chM cb mb jb mp L) w' (chM cb mb jb mp L))
theorem mStep_calls (r:List By) (n:Nat) (c cB:Cd) (h:ChG noEx w cb mb 1 room L) (hI:ImsK n L) (hps:IsPath (L.map (·.x)) s (b :: r)) (hp:IsPath (L.map (·.x)) b r) (hcs:fK L s=some c) (hc:fK L b=some cB) (hn:∀c∈L,c.nm.length≤maxLen) (hp8:r.length<64) (hn2:n≤256)
 (hM:MgW w jb cb mp s b l false) (hl:l.length=n) (hne:jb≠mp) (n0:¬chO cb mb L jb) (n1:¬chO cb mb L mp) :
 Calls Tryz.prog 284 #[.pointer (some ⟨jb,0,none⟩)] w (mStepPost w cb mb room jb mp n L s b r c cB l):=by
 have hcm:=(nlFind_mem hcs).1
 have hsl:s.length≤maxLen:=by rw [←(nlFind_mem hcs).2];exact hn c hcm
 have hj:=fun X (hX:Fr [] w X)=>(hM.fr0 hX).blk.cell
 unfold mergeC at hj
 have kI:=fun X (hX:Fr [] w X)=>chImage_calls s (h.fr0 hX) hsl
 simp only [hcs] at kI
 have kBt:=fun X (hX:Fr [] w X)=>iBits_calls X ((h.img c hcm (fun h=>h)).fr0 hX)
 simp only [(hI c hcm).2.1] at kBt
 have hdr:=(Fr.refl [] w).drew
 have hcard:=fun X (hX:Fr [] w X)=>(hM.left.fr0 hX).card 3
 have hcl:=cnt_le l
 go_enter Tryz.func284,Tryz.ntmps284
 go_wp2_with fail
 refine wp_region_G (fun X=>Fr [] w.drew X) [(true,0),(true,1),(true,2),(true,3),(true,4),(true,5),(true,6),(true,7),(false,8),(true,9)] (by as_aux_lemma=>kernel_rfl) (by as_aux_lemma=>kernel_rfl) (Fr.refl _ _) ?_
 simp only [inOrder,jD,jE,jF,jG]
 iterate 3 (refine wpG_pure fun K hK=>?_;go_simp;refine hK _ ?_;clear hK K)
 refine wpG_val (.pointer (some ⟨cb,0,none⟩)) (by first | rfl | go_simp) (fun X hX=>by have cc:=hj X (hdr.trans0 hX);go_simp) ?_
 simp only [Act.put,jA,jB,jC]
 iterate 3 (refine wpG_pure fun K hK=>?_;go_simp;refine hK _ ?_;clear hK K)
 refine wpG_val (strL s) (by first | rfl | go_simp) (fun X hX=>by have cc:=hj X (hdr.trans0 hX);go_simp) ?_
 simp only [Act.put,jA,jB,jC]
 refine wpG_one fun K hK=>?_
 go_simp
 refine (kI _ hdr).mono ?_
 rintro e w2 ⟨rfl,rfl⟩
 refine hK _ _ (Fr.refl _ _) ?_
 clear hK K
 iterate 1 (refine wpG_pure fun K hK=>?_;go_simp;refine hK _ ?_;clear hK K)
 refine wpG_end ?_
 have j1:=hj _ hdr
 have hcd:=hcard _ hdr
 go_wp2_with fail
 refine (kBt _ hdr).mono ?_
 rintro e w3 ⟨rfl,rfl⟩
 clear kI kBt hcard
 by_cases hz:cnt l=0
 case pos =>
  have hc0:((cnt l:Nat):Int)=0:=by omega
  have hd2:=hdr.drew
  have kS:=fun X (hX:Fr [] w X)=>iSize_calls X ((h.img c hcm (fun h=>h)).fr0 hX)
  simp only [(hI c hcm).2.2] at kS
  have kD:=chDiscard_calls s n c 0 ((n:Int)*2) (h.fr0 hd2) hI hcs hn
  have hMd:=hM.fr0 hd2
  have hw:IntKind.i64.wrap ((n:Int)*2)=(n:Int)*2:=IntWalk.i64_in _ (by omega)
  unfold chResPost at kD
  go_wp2_with fail
  refine wp_region_G (fun X=>Blk X jb (mergeC cb mp s b false) 148) [(true,0),(true,1),(true,2),(true,3),(true,4),(true,5),(true,6),(true,7),(true,8),(true,10),(false,9),(true,11),(false,12)] (by as_aux_lemma=>kernel_rfl) (by as_aux_lemma=>kernel_rfl) (hMd.blk) ?_
  simp only [inOrder,jD,jE,jF,jG]
  iterate 3 (refine wpG_pure fun K hK=>?_;go_simp;refine hK _ ?_;clear hK K)
  refine wpG_val (.pointer (some ⟨cb,0,none⟩)) (by first | rfl | go_simp) (fun X hX=>by have cc:=Blk.cell hX;unfold mergeC at cc;go_simp) ?_
  simp only [Act.put,jA,jB,jC]
  iterate 3 (refine wpG_pure fun K hK=>?_;go_simp;refine hK _ ?_;clear hK K)
  refine wpG_val (strL s) (by first | rfl | go_simp) (fun X hX=>by have cc:=Blk.cell hX;unfold mergeC at cc;go_simp) ?_
  simp only [Act.put,jA,jB,jC]
  iterate 2 (refine wpG_pure fun K hK=>?_;go_simp;refine hK _ ?_;clear hK K)
  refine wpG_one fun K hK=>?_
  go_simp
  refine (kS _ hd2).mono ?_
  rintro e w4 ⟨rfl,rfl⟩
  refine hK _ _ (hMd.blk) ?_
  clear hK K
  iterate 1 (refine wpG_pure fun K hK=>?_;go_simp;refine hK _ ?_;clear hK K)
  refine wpG_one fun K hK=>?_
  go_simp
  refine (kD).mono ?_
  rintro e w5 ⟨i,rfl,hi,p',h5,hs5⟩
  have hB5:=hs5.blk hMd.blk n0
  refine hK _ _ (hB5) ?_
  clear hK K
  refine wpG_end ?_
  have hL5:=hs5.set hMd.left n1
  have kE:=mEnd_calls (⟨hB5,hL5⟩:MgW _ jb cb mp s b l false) hne
  have n05:=hs5.out n0 hMd.blk.lt
  have n15:=hs5.out n1 hMd.left.lt
  replace hi:=hidIt hi
  clear hMd kD kS hj j1 hcd
  go_wp2_with fail
  refine kE.mono ?_
  rintro e w6 ⟨rfl,hM6,hf6⟩
  have hfin:=hidIt (show ChG noEx w6 cb mb 1 room (setK L s p' (discardE c.x.M 0 ((n:Int)*2)).2)∧MgW w6 jb cb mp s b (List.replicate l.length false) true∧StepO w (chM cb mb jb mp L) w6 (chM cb mb jb mp (setK L s p' (discardE c.x.M 0 ((n:Int)*2)).2))∧¬chO cb mb (setK L s p' (discardE c.x.M 0 ((n:Int)*2)).2) jb∧¬chO cb mb (setK L s p' (discardE c.x.M 0 ((n:Int)*2)).2) mp from ⟨h5.fr hf6 (fun q hq=>by simp at hq;rcases hq with rfl | rfl <;> first | exact n05 | exact n15),hM6,((StepO.fr0 hd2).trans ((hs5.more jb).more mp)).trans ⟨⟨_,hf6,fun q hq _=>by simp at hq;exact hq.elim (fun h=>.inl (.inr h)) .inr⟩,fun q hq=>.inl hq⟩,n05,n15⟩)
  clear kE h5 hs5 hM6 hf6
  go_wp2
  go_ret2
  exact .inl ⟨hz,rfl,p',hfin.out⟩
 have hc0:¬((cnt l:Nat):Int)=0:=by omega
 have hon:=hidIt (show ∀m:Int,m∈(onL l).map (fun (k:Nat)=>(k:Int))→∃k:Nat,k∈onL l∧m=(k:Int)∧k<n from by
  intro m hm
  obtain ⟨k,hk,rfl⟩:=List.mem_map.1 hm
  exact ⟨k,hk,rfl,by have:=onL_lt hk;omega⟩)
 have hne0:Hid ((onL l).map (fun (k:Nat)=>(k:Int))≠[]):=hidIt (fun h=>hz (by rw [←onL_cnt,List.map_eq_nil_iff.1 h];rfl))
 generalize hcl':cnt l=cl at hc0 hcd
 go_wp2_with fail
 refine (keysM_calls mp w.drew).mono ?_
 rintro e w1 ⟨rfl,hw1⟩
 have hF1:Fr [] w w1:=by rw [hw1];exact hdr.alloc _
 have hBm:Blk w1 w.drew.heap.size [.map (some mp)] 138:=by rw [hw1];exact Blk.new' rfl [_] _
 have kS:=leftCollect_calls (hM.left.fr0 hF1) (by omega) _ hBm
 clear hw1 hBm
 go_wp2_with fail
 refine kS.mono ?_
 rintro e w2 ⟨v,ss,rfl,hpm,hsl2,hf2,hvn⟩
 clear kS
 have hF2:=hF1.trans0 hf2
 have kM:=MinI_calls v ss w2 hsl2 (fun h=>hne0.out (by rw [h] at hpm;exact List.eq_nil_of_length_eq_zero (by rw [←hpm.length_eq];rfl)))
 go_wp2_with fail
 refine kM.mono ?_
 rintro e w3 ⟨m,rfl,hm,_,hf3⟩
 obtain ⟨k,hk,rfl,hkn⟩:=hon.out m (hpm.mem_iff.1 hm)
 have hF3:=hF2.trans0 hf3
 obtain ⟨K,hK⟩:∃K:Nat,Hid (k*2=K):=⟨_,hidIt rfl⟩
 have hmul:(k:Int)*2=(K:Int):=by have:=hK.out;omega
 have hmw:IntKind.i64.wrap (K:Int)=(K:Int):=IntWalk.i64_in _ (by have:=hK.out;omega)
 have h3:=h.fr0 hF3
 have hM3:=hM.fr0 hF3
 have kX:=mBring_calls r n k K 2 c cB h3 hI hps hp hcs hc hn hp8 hn2 hkn hM3.blk n0
 have hck:=kind012 hI hcs k
 have hcl2:=hidIt hcl'
 clear kM hsl2 hpm hm hj j1 hcd h hI hps hp hn hvn hcl'
 unfold bringPost at kX
 go_wp2_with fail
 refine kX.mono ?_
 intro e w4 hx
 clear kX
 obtain ⟨i,L',rfl,h4,hs4,hend⟩:∃(i:Int) (L':List Cd),e=.returned (.int .i64 i)∧ChG noEx w4 cb mb 1 room L'∧StepO w3 (chO cb mb L) w4 (chO cb mb L')∧Hid (∀w',ChG noEx w' cb mb 1 room L'→MgW w' jb cb mp s b (if i=0 then l.set k false else l) false→StepO w (chM cb mb jb mp L) w' (chM cb mb jb mp L')→¬chO cb mb L' jb→¬chO cb mb L' mp→mStepPost w cb mb room jb mp n L s b r c cB l (.returned (.tuple #[.bool false,.int .i64 i])) w'):=by
  have hKc:((k*2:Nat):Int)=(K:Int):=by have:=hK.out;omega
  rcases hx with ⟨h1,i,rfl,rfl,p',h4,hs4⟩ | ⟨h1,i,rfl,rfl,p',h4,hs4⟩ | ⟨h1,h2,rfl,hf4⟩
  ·have hr:mgRes cB (L.map (·.x)) n s b r k=writeE cB.x.M (K:Int) (seenC (L.map (·.x)) 32 (s :: b :: r) k) (belL (L.map (·.x)) n r):=by unfold mgRes;rw [if_pos h1,hKc]
   rw [←hr] at h4 hs4 ⊢
   exact ⟨_,_,rfl,h4,hs4,hidIt fun w' g1 g2 g3 g4 g5=>.inr (.inl ⟨k,hk,by rw [h1];decide,rfl,p',g1,g2,g3,g4,g5⟩)⟩
  ·have hr:mgRes cB (L.map (·.x)) n s b r k=zeroE cB.x.M (K:Int) 2 (belL (L.map (·.x)) n r):=by unfold mgRes;rw [if_neg (by rw [h1];decide),hKc]
   rw [←hr] at h4 hs4 ⊢
   exact ⟨_,_,rfl,h4,hs4,hidIt fun w' g1 g2 g3 g4 g5=>.inr (.inl ⟨k,hk,by rw [h1];decide,rfl,p',g1,g2,g3,g4,g5⟩)⟩
  ·have h0:kindD (L.map (·.x)) s k=0:=by rcases hck with h | h | h;exact h;exact absurd h h1;exact absurd h h2
   exact ⟨0,L,rfl,h3.fr0 hf4,StepO.fr0 hf4,hidIt fun w' g1 g2 g3 _ _=>.inr (.inr ⟨k,hk,h0,rfl,g1,by rw [if_pos rfl] at g2;exact g2,g3⟩)⟩
 clear hx hck hcs hc
 have hB4:=hs4.blk hM3.blk n0
 have hL4:=hs4.set hM3.left n1
 have n04:=hs4.out n0 hM3.blk.lt
 have n14:=hs4.out n1 hM3.left.lt
 have hst:=(StepO.fr0 (o:=chM cb mb jb mp L) hF3).trans ((hs4.more jb).more mp)
 have c4:=hB4.cell
 unfold mergeC at c4
 clear h3 hM3 hs4
 by_cases hi:i=0
 case neg =>
  have hfin:=hidIt (hend.out w4 h4 ⟨hB4,by rw [if_neg hi];exact hL4⟩ hst n04 n14)
  clear h4 hB4 hL4 hst hend
  go_wp2
  go_ret2
  exact hfin.out
 subst hi
 obtain ⟨w5,hr5,hL5,hf5⟩:=hL4.del (k:=k) (by omega) (by omega)
 have hfin:=hidIt (hend.out w5 (h4.fr hf5 (by intro q hq;rw [List.mem_singleton.1 hq];exact n14)) ⟨hB4.fr hf5 (by simpa using hne),by rw [if_pos rfl];exact hL5⟩ (hst.trans ⟨⟨_,hf5,fun q hq _=>.inr (List.mem_singleton.1 hq)⟩,fun q hq=>.inl hq⟩) n04 n14)
 clear h4 hB4 hL4 hst hend hL5 hf5
 go_wp2
 go_ret2
 exact hfin.out
end
section
variable {w w':World} {jb lm gm cb mb n room:Nat} {s:By} {p:List By} {o:Nat→Prop} {l:List Bool} {G:Got} {L:List Cd} {over done:Bool}
def phCopies (w:World) (jb lm gm cb n:Nat) (s:By) (o:Nat→Prop) (r:List Bool × (Nat→Option By)) (w':World):Prop :=
 ∃o' G',PshW w' jb lm gm cb n s o' r.1 G' false false∧unG G'=r.2∧(∀q,o' q→o q∨w.heap.size≤q)∧Fr [lm,gm] w w'
def phBefPost (w:World) (jb lm gm cb n:Nat) (s:By) (o:Nat→Prop) (r:List Bool × (Nat→Option By)) (e:Ending) (w':World):Prop :=
 e=.returned (.int .i64 0)∧phCopies w jb lm gm cb n s o r w'
theorem phBefore_none (a:Int) (g:Nat) (hJ:PshW w jb lm gm cb n s o l G false false) (hg:g=0) :
 Calls Tryz.prog 75 #[.pointer (some ⟨jb,0,none⟩),.int .i64 a,.int .i64 (g:Int)] w (phBefPost w jb lm gm cb n s o (l,unG G)):=by
 subst hg
 have hj:=hJ.blk.cell
 unfold pushC at hj
 go_enter Tryz.func75,Tryz.ntmps75
 go_wp2
 go_ret
 exact ⟨rfl,o,G,hJ,rfl,fun q hq=>.inl hq,Fr.refl _ _⟩
theorem phBefore_calls (a:Int) (g:Nat) (hJ:PshW w jb lm gm cb n s o l G false false) (hg1:0<g) (hg:g≤maxLen) (hn8:n≤8)
 (h:ChG noEx w cb mb 1 room L) (hI:ImsK n L) (hp:IsPath (L.map (·.x)) s p) (hn:∀c∈L,c.nm.length≤maxLen) (hp8:p.length≤64) (hfar:¬chO cb mb L lm∧¬chO cb mb L gm) :
 Calls Tryz.prog 75 #[.pointer (some ⟨jb,0,none⟩),.int .i64 a,.int .i64 (g:Int)] w (phBefPost w jb lm gm cb n s o (befP (viewK L n s p) (touch a g) l (unG G))):=by
 have hj:=hJ.blk.cell
 have hjf:=hJ.blk
 unfold pushC at hj
 have hln:=hJ.len
 have hlt1:¬(g:Int)<1:=by omega
 have hgl:=hJ.lt (k:=gm) (.inr (.inr (.inl rfl)))
 have hjl:=hJ.lt (k:=jb) (.inl rfl)
 have hll:=hJ.lt (k:=lm) (.inr (.inl rfl))
 have kC:=fun X (hX:Fr [lm,gm] w X) k (hk:k<n) o' l' G' (hJ':PshW X jb lm gm cb n s o' l' G' false false)=>phCopy_calls k hJ' hk hn8 (h.fr hX (fun q hq=>by simp at hq;rcases hq with rfl | rfl <;> first | exact hfar.1 | exact hfar.2)) hI hp hn hp8
 generalize viewK L n s p=V at *
 clear h hI hp hn hfar
 go_enter Tryz.func75,Tryz.ntmps75
 go_wp2_with fail
 refine (keysM_calls lm w).mono ?_
 rintro e w1 ⟨rfl,hw1⟩
 have hF1:Fr [] w w1:=by rw [hw1];exact (Fr.refl _ w).alloc _
 have hBm:Blk w1 w.heap.size [.map (some lm)] 138:=by rw [hw1];exact Blk.new' rfl [_] _
 have kS:=leftSorted_calls (hJ.left.fr0 hF1) (by omega) _ hBm
 have hz1:=hF1.size
 clear hw1 hBm
 go_wp2_with fail
 refine kS.mono ?_
 rintro e w2 ⟨v,rfl,hsl,hf2,hvn⟩
 clear kS
 have hF2:=hF1.trans0 hf2
 obtain ⟨va,vc,rfl,hvl,hvc,_⟩:=SlF.open hsl
 have hkl:(onL l).length≤n:=by rw [onL_cnt];have:=cnt_le l;omega
 rw [List.length_map] at hvl hsl hvn ⊢
 have hJ2:=hJ.fr0 hF2
 have hz2:=hF2.size
 have hbf:Hid (turnsP V (touch a g) ((onL l).take (onL l).length) (l,unG G)=befP V (touch a g) l (unG G)):=hidIt (by rw [List.take_length];rfl)
 have hmx:Hid (∀k∈onL l,k<n):=hidIt (by intro k hk;have:=onL_lt hk;omega)
 have hmore:=hidIt (turnsP_more V (touch a g) (onL l) (l,unG G))
 have hR0:Hid (phCopies w jb lm gm cb n s o (turnsP V (touch a g) ((onL l).take 0) (l,unG G)) w2):=hidIt ⟨o,G,hJ2,rfl,fun q hq=>.inl hq,hF2.weak⟩
 have hlow:=hJ.low
 generalize onL l=ks at *
 clear hj hjf hJ hJ2
 go_wp2_with fail
 go_loopw [9,10,11,29] (fun _ _ _ i wr=>∃k:Nat,k≤ks.length∧i=.int .i64 (k:Int)∧Hid (phCopies w jb lm gm cb n s o (turnsP V (touch a g) (ks.take k) (l,unG G)) wr)∧Fr [lm,gm] w2 wr) (fun _ _ _ i _=>ks.length - (intOf i).toNat)
 case atStart=>exact ⟨0,Nat.zero_le _,rfl,hR0,Fr.refl _ _⟩
 clear hR0
 obtain ⟨k,hk,rfl,hR,hF⟩:=hrel
 by_cases hlt2:k<ks.length
 case neg =>
  have hke:k=ks.length:=by omega
  have hlt':¬(k:Int)<(ks.length:Int):=by omega
  rw [hke,hbf.out] at hR
  clear kC
  go_wp2
  go_ret
  exact ⟨rfl,hR.out⟩
 have hlt':(k:Int)<(ks.length:Int):=by omega
 have hsr:=SlF.fr hsl hF (fun q hq hm=>by
  have:=hvn q hq
  simp at hm
  rcases hm with rfl | rfl <;> omega)
 obtain ⟨b,off,rfl,hb,d0⟩:=intAt hsr (i:=k) (by simpa using hlt2)
 have hkk:ks[k]? = some (ks.getD k 0):=getD_some 0 hlt2
 have hm0:=hmore.out k _ hkk
 have hkn:=hmx.out _ (List.mem_of_getElem? hkk)
 rw [show ((ks.map fun (k:Nat)=>(k:Int)).getD k 0)=((ks.getD k 0:Nat):Int) from by rw [List.getD_eq_getElem?_getD,List.getElem?_map,hkk];rfl] at d0
 generalize ks.getD k 0=x at *
 obtain ⟨o',G',hJr,hGr,hor,hFr⟩:=hR.out
 have jr:=hJr.blk.cell
 unfold pushC at jr
 have hw1:IntKind.i64.wrap ((x:Int)*2+2)=(x:Int)*2+2:=IntWalk.i64_in _ (by omega)
 have hw2:IntKind.i64.wrap ((x:Int)*2 - (g:Int))=(x:Int)*2 - (g:Int):=IntWalk.i64_in _ (by unfold maxLen at hg;omega)
 by_cases hA:a<(x:Int)*2+2
 case neg =>
  have ht:touch a g x=false:=by unfold touch;rw [decide_eq_false (by omega)];rfl
  have hnx:=hidIt (show phCopies w jb lm gm cb n s o (turnsP V (touch a g) (ks.take (k+1)) (l,unG G)) wr from by rw [hm0];unfold turnP;rw [ht,if_neg (by decide)];exact hR.out)
  clear hm0 kC hJr hR hsr ht
  go_wp2_with fail
  exact ⟨⟨k+1,by omega,by go_num,hnx,hF⟩,by show ks.length - ((k:Int)+1).toNat<ks.length - ((k:Nat):Int).toNat;omega⟩
 by_cases hA2:(x:Int)*2 - (g:Int)<a
 case neg =>
  have ht:touch a g x=false:=by unfold touch;rw [decide_eq_false (p:=2*(x:Int) - (g:Int)<a) (by omega),Bool.and_false]
  have hnx:=hidIt (show phCopies w jb lm gm cb n s o (turnsP V (touch a g) (ks.take (k+1)) (l,unG G)) wr from by rw [hm0];unfold turnP;rw [ht,if_neg (by decide)];exact hR.out)
  have hA3:a≤(x:Int)*2 - (g:Int):=by omega
  clear hm0 kC hJr hR hsr ht
  go_wp2_with fail
  exact ⟨⟨k+1,by omega,by go_num,hnx,hF⟩,by show ks.length - ((k:Int)+1).toNat<ks.length - ((k:Nat):Int).toNat;omega⟩
 have ht:touch a g x=true:=by unfold touch;rw [decide_eq_true (by omega),decide_eq_true (by omega)];rfl
 have hA3:¬a≤(x:Int)*2 - (g:Int):=by omega
 have kX:=kC wr hFr x hkn _ _ _ hJr
 have hnx:=fun (w':World) (o2:Nat→Prop) v' (h1:PshW w' jb lm gm cb n s o2 ((turnsP V (touch a g) (ks.take k) (l,unG G)).1.set x false) (putG G' x (V x,v')) false false) (h2:∀q,o2 q→o' q∨wr.heap.size≤q) (h3:Fr [lm,gm] wr w') =>
  hidIt (show phCopies w jb lm gm cb n s o (turnsP V (touch a g) (ks.take (k+1)) (l,unG G)) w'∧Fr [lm,gm] w2 w' from by
   have hz:=hFr.size
   refine ⟨?_,hF.trans' h3⟩
   rw [hm0]
   unfold turnP
   rw [if_pos ht]
   refine ⟨o2,_,h1,by rw [unG_put,hGr],fun q hq=>?_,hFr.trans' h3⟩
   rcases h2 q hq with h9 | h9
   ·exact hor q h9
   ·exact .inr (by omega))
 clear hm0 kC hJr hR hsr ht hF hFr hGr hor
 go_wp2_with fail
 refine kX.mono ?_
 rintro e w5 ⟨rfl,o2,v',g1,g2,g3⟩
 have hnx:=hnx w5 o2 v' g1 g2 g3
 clear kX g1 g2 g3
 go_wp2_with fail
 exact ⟨⟨k+1,by omega,by go_num,hidIt hnx.out.1,hnx.out.2⟩,by show ks.length - ((k:Int)+1).toNat<ks.length - ((k:Nat):Int).toNat;omega⟩
end
end Go.Proofs.YtffnihooekbcnaaGreat
