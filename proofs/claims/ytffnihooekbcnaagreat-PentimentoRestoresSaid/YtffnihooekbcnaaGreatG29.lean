/-
  span.Each: what its iterator hands out.
-/
import Derived.Test.YtffnihooekbcnaaGreatG28
import Derived.Test.YtffnihooekbcnaaGreatSeq
import Derived.RangeFuncBound
import Derived.Shelf.RegionOpen
import Derived.OwnWalkIn
import Derived.TacticsInMore
import Derived.LoopNIn
import Derived.LoopIn
import Derived.ChangeKeysEq
import Derived.Test.YtffnihooekbcnaaGreatG12
import Derived.Test.YtffnihooekbcnaaGreatG26
set_option maxRecDepth 100000
set_option maxHeartbeats 6400000
namespace Go.Proofs.YtffnihooekbcnaaGreat
open Go.RowKit Go.Maps
attribute [local go_sem] Oper.semAt_some
def ofKind (l:List Op3) (k:Int):List Op3:=(ofE (kindsE l)).filter fun x=>x.2.2 == k
theorem filter_next {α:Type} (d:α) (p:α→Bool) {E:List α} {k:Nat} (hk:k<E.length) (hp:p (E.getD k d)=true) :
 ((E.take k).filter p).length<(E.filter p).length∧(E.filter p).getD ((E.take k).filter p).length d=E.getD k d∧((E.take (k+1)).filter p).length=((E.take k).filter p).length+1:=by
 have hg:E[k]=E.getD k d:=by rw [List.getD_eq_getElem?_getD,List.getElem?_eq_getElem hk];rfl
 have e1:E.filter p=(E.take k).filter p++E.getD k d :: (E.drop (k+1)).filter p:=by
  have h2:E=E.take k++E.getD k d :: E.drop (k+1):=by rw [←drop_getD d hk,List.take_append_drop]
  have h3:E.filter p=(E.take k++E.getD k d :: E.drop (k+1)).filter p:=congrArg (fun l=>List.filter p l) h2
  rw [h3,List.filter_append,List.filter_cons,if_pos hp]
 refine ⟨by rw [e1];simp,?_,?_⟩
 ·rw [e1,List.getD_eq_getElem?_getD,List.getElem?_append_right (Nat.le_refl _)]
  simp
 ·rw [List.take_succ_eq_append_getElem hk,hg,List.filter_append,List.length_append,List.filter_cons,if_pos hp]
  rfl
theorem filter_skip {α:Type} (d:α) (p:α→Bool) {E:List α} {k:Nat} (hk:k<E.length) (hp:p (E.getD k d)=false):((E.take (k+1)).filter p).length=((E.take k).filter p).length:=by
 have hg:E[k]=E.getD k d:=by rw [List.getD_eq_getElem?_getD,List.getElem?_eq_getElem hk];rfl
 rw [List.take_succ_eq_append_getElem hk,hg,List.filter_append,List.length_append,List.filter_cons,if_neg (by rw [hp];decide)]
 rfl
theorem each_seq (bl bk:Nat) (vl:Value) (l:List Op3) (kind:Int) (w:World) (hbl:Blk w bl [vl] 225) (hbk:Blk w bk [.int .i64 kind] 3) (hv:SlP w vl l) :
 Seq Tryz.prog 188 #[.pointer (some ⟨bl,0,none⟩),.pointer (some ⟨bk,0,none⟩)] [] (fun x=>x=bk) (ofKind l kind).length
  (fun k _ args=>args=#[.int .i64 ((ofKind l kind).getD k z3).1,.int .i64 ((ofKind l kind).getD k z3).2.1]) w:=by
 intro lp J Jx fp W hFW hl1 hl2 hst hsx hfp hJ hY
 have hvW:=hv.fr0 hFW
 have hblW:=hbl.fr0 hFW
 have hbkW:=hbk.fr0 hFW
 have c1:=hblW.cell
 obtain ⟨a,cap,rfl,hlc,hcm,_⟩:=hvW.open
 have key:=sNorm_calls _ l W hvW
 unfold ofKind at *
 generalize ofE (kindsE l)=E at *
 have Hn:∀k,k<E.length→(E.getD k z3).2.2=kind→Hid (((E.take k).filter fun x=>x.2.2 == kind).length<(E.filter fun x=>x.2.2 == kind).length∧(E.filter fun x=>x.2.2 == kind).getD ((E.take k).filter fun x=>x.2.2 == kind).length z3=E.getD k z3∧((E.take (k+1)).filter fun x=>x.2.2 == kind).length=((E.take k).filter fun x=>x.2.2 == kind).length+1):=fun k hk he=>hidIt (filter_next z3 _ hk (beq_iff_eq.2 he))
 have Hs:∀k,k<E.length→(E.getD k z3).2.2≠kind→Hid (((E.take (k+1)).filter fun x=>x.2.2 == kind).length=((E.take k).filter fun x=>x.2.2 == kind).length):=fun k hk he=>hidIt (filter_skip z3 _ hk (beq_eq_false_iff_ne.2 he))
 have Hd:Hid (((E.take E.length).filter fun x=>x.2.2 == kind).length=(E.filter fun x=>x.2.2 == kind).length):=hidIt (by rw [List.take_length])
 have H0:((E.take 0).filter fun x=>x.2.2 == kind).length=0:=by simp
 generalize hC:(fun k=>((E.take k).filter fun x=>x.2.2 == kind).length)=C at *
 replace Hn:∀k,k<E.length→(E.getD k z3).2.2=kind→Hid (C k<(E.filter fun x=>x.2.2 == kind).length∧(E.filter fun x=>x.2.2 == kind).getD (C k) z3=E.getD k z3∧C (k+1)=C k+1):=by rw [←hC];exact Hn
 replace Hs:∀k,k<E.length→(E.getD k z3).2.2≠kind→Hid (C (k+1)=C k):=by rw [←hC];exact Hs
 replace Hd:Hid (C E.length=(E.filter fun x=>x.2.2 == kind).length):=by rw [←hC];exact Hd
 replace H0:C 0=0:=by rw [←hC];exact H0
 clear hC
 generalize (E.filter fun x=>x.2.2 == kind)=xs at *
 refine callsIn_of_wp Tryz.func188 rfl trivial ?_ rfl
 simp only [Tryz.ntmps188,List.size_toArray,List.length_cons,List.length_nil,Nat.reduceAdd,Nat.reduceSub,Array.replicate_succ,Array.replicate_zero,List.push_toArray,List.append_toArray,List.nil_append,List.cons_append]
 gi_wp2_with fail
 refine ⟨trivial,rfl,(callsIn_wide.2 key).mono ?_⟩
 rintro e w1 ⟨v1,rfl,hs1,hf1,hb1⟩
 obtain ⟨a1,cap1,rfl,hlc1,hcm1,_⟩:=hs1.open
 have hbk1:=hbkW.fr0 hf1
 have hJ1:=hst 0 fp W w1 [] hJ hf1 (fun x h=>by cases h)
 have hsz1:=hf1.size
 have hfp1:∀x∈fp,x<w1.heap.size∧x≠bk∧∀p,a1=some p→p.block≠x:=fun x hx=>⟨by have:=(hfp x hx).1;omega,(hfp x hx).2,fun p hp he=>by
  have:=hb1 p.block (by simp [Value.ownBlock,hp])
  have:=(hfp x hx).1
  omega⟩
 unfold maxLen at hcm1
 have hJ0:J (C 0) fp w1:=by rw [H0];exact hJ1
 clear hbl hbk hv hvW hblW hbkW c1 hJ hfp hJ1 H0
 gi_wp2_with fail
 gi_loopw [5,9] (fun _ i wr=>∃(k:Nat) (f:List Nat),k≤E.length∧i=.int .i64 k∧J (C k) f wr∧(∀x∈f,x<wr.heap.size∧x≠bk∧∀p,a1=some p→p.block≠x)∧Blk wr bk [.int .i64 kind] 3∧SlP wr (.slice a1 E.length cap1) E∧W.heap.size≤wr.heap.size) (fun _ i _=>E.length - (intOf i).toNat)
 case atStart=>exact ⟨0,fp,Nat.zero_le _,rfl,hJ0,hfp1,hbk1,hs1,hsz1⟩
 case round =>
  clear hJ0 hfp1 hbk1 hs1 hsz1 hf1 hb1
  obtain ⟨k,f,hk,rfl,hj,hf,hbk,hsl,hsz⟩:=hrel
  have c2:=hbk.cell
  have l2:=hbk.lt
  by_cases hlt:k<E.length
  ·obtain ⟨b,off,rfl,hb,d0,d1,d2⟩:=SlP.at hsl hlt
   by_cases he:(E.getD k z3).2.2=kind
   ·obtain ⟨n1,n2,n3⟩:=(Hn k hlt he).out
    replace n3:=hidIt n3
    have hFa:Fr [] wr (wr.alloc (.cells #[.int .i64 (E.getD k z3).1,.int .i64 (E.getD k z3).2.1,.int .i64 (E.getD k z3).2.2] 268)):=(Fr.refl _ _).alloc _
    have hy:=hY (C k) f _ _ n1 (hst _ _ _ _ [] hj hFa (fun x h=>by cases h)) rfl
    rw [n2] at hy
    have hbk':=hbk.fr0 hFa
    have hsl':=SlF.fr0 hsl hFa
    have hsza:=hFa.size
    clear Hn Hs Hd
    generalize E.getD k z3=x at *
    obtain ⟨p,q,r⟩:=x
    simp only at d0 d1 d2 he hy
    subst he
    obtain ⟨fn',tmps',assign',body',hyy,hR⟩:=hy
    clear hY hst n2
    gi_wp2_with fail
    refine ⟨rfl,hR.mono ?_⟩
    clear hR hyy
    rintro e w4 (⟨rfl,f',hj4,hf4,hg4⟩ | ⟨rfl,hjx⟩)
    ·have q4:=hf4.size
     have nb:∀y,y∈f→y<wr.heap.size∧y≠bk∧b≠y:=fun y hy=>⟨(hf y hy).1,(hf y hy).2.1,(hf y hy).2.2 _ rfl⟩
     have hbk4:=hbk'.fr hf4 (fun h=>(nb _ h).2.1 rfl)
     have hsl4:SlP w4 (.slice (some ⟨b,off,none⟩) E.length cap1) E:=SlF.fr hsl' hf4 (fun y hy hm=>by cases hy;exact (nb _ hm).2.2 rfl)
     have hg:∀y,y∈f'→y<w4.heap.size∧y≠bk∧∀p:Addr,some (⟨b,off,none⟩:Addr)=some p→p.block≠y:=fun y hy=>by
      refine ⟨(hg4 y hy).1,?_⟩
      rcases (hg4 y hy).2 with h | h
      ·exact ⟨(nb y h).2.1,fun p hp=>by cases hp;exact (nb y h).2.2⟩
      ·exact ⟨by omega,fun p hp=>by cases hp;show b≠y;omega⟩
     gi_wp2
     go_roundw
     case rel=>exact ⟨k+1,f',by omega,by go_num,by rw [n3.out];exact hj4,hg,hbk4,hsl4,by omega⟩
     case measure=>simp [intOf];omega
    ·gi_wp2
     refine bodyPost_ret (results_none rfl _ _ _) rfl ?_
     exact ⟨⟨_,rfl⟩,.inr hjx⟩
   ·have n3:=Hs k hlt he
    have hFa:Fr [] wr (wr.alloc (.cells #[.int .i64 (E.getD k z3).1,.int .i64 (E.getD k z3).2.1,.int .i64 (E.getD k z3).2.2] 268)):=(Fr.refl _ _).alloc _
    have hj':=hst _ _ _ _ [] hj hFa (fun x h=>by cases h)
    have hbk':=hbk.fr0 hFa
    have hsl':=SlF.fr0 hsl hFa
    have hsza:=hFa.size
    clear Hn Hs Hd hY hst
    generalize E.getD k z3=x at *
    obtain ⟨p,q,r⟩:=x
    simp only at d0 d1 d2 he hj' hsza
    have hbe:((r:Int) == kind)=false:=by simpa using he
    gi_wp2
    refine ⟨fun _ h=>(by cases h),?_⟩
    gi_wp2
    go_roundw
    case rel=>exact ⟨k+1,f,by omega,by go_num,by rw [n3.out];exact hj',fun y hy=>⟨by have:=(hf y hy).1;omega,(hf y hy).2⟩,hbk',hsl',by omega⟩
    case measure=>simp [intOf];omega
  ·have hke:k=E.length:=by omega
   have hj':J xs.length f wr:=by rw [←Hd.out,←hke];exact hj
   clear hst hY Hn Hs Hd hke
   gi_wp2
   go_end0
   exact ⟨⟨_,rfl⟩,.inl ⟨f,hj'⟩⟩
theorem sEach_calls (vl:Value) (kind:Int) (a:Option Addr) (n c:Nat) (hvl:vl=.slice a n c) (w:World):Calls Tryz.prog 155 #[vl,.int .i64 kind] w fun e w'=>∃bl bk,e=.returned (.func (.func 188) #[] #[.pointer (some ⟨bl,0,none⟩),.pointer (some ⟨bk,0,none⟩)]) ∧
 Blk w' bl [vl] 225∧Blk w' bk [.int .i64 kind] 3∧Fr [] w w'∧w.heap.size≤bl∧w.heap.size≤bk:=by
 subst hvl
 go_enter Tryz.func155,Tryz.ntmps155
 go_wp2
 go_ret
 exact ⟨_,_,rfl,(Blk.new w [_] _).alloc _,Blk.new' (by simp) [_] _,((Fr.refl _ _).alloc _).alloc _,Nat.le_refl _,by omega⟩
end Go.Proofs.YtffnihooekbcnaaGreat
namespace Go.Proofs.YtffnihooekbcnaaGreat
open Go.RowKit Go.Maps
def P2 (x:Int):Prop:=x=1∨x=2∨x=4∨x=8∨x=16∨x=32∨x=64∨x=128
def z0:Value:=.agg #[.int .i64 0,.int .i64 0,.slice none 0 0]
def rb (S g:Nat) (v:Value):Value:=.agg #[.int .i64 S,.int .i64 g,v]
theorem bSet_getD {S g:Nat} {l:List Bool} {f n k:Nat} (hk:k<l.length):(bSet S g l f n).getD k false=(oneB S g f n k || l.getD k false):=getD_range l _ hk
def eE (a b:Op3):Bool:=decide (a.1=b.1) && (decide (a.2.1=b.2.1) && decide (a.2.2=b.2.2))
theorem fieldsExt (f : Array Field) (h : f = #[{ name := "From", type := 3, offset := 0, embedded := false, tag := "", pkgPath := "", byteOffset := 0 }, { name := "Long", type := 3, offset := 1, embedded := false, tag := "", pkgPath := "", byteOffset := 8 }, { name := "Kind", type := 3, offset := 2, embedded := false, tag := "", pkgPath := "", byteOffset := 16 }])
 (d:Nat) (a b:Op3) (w:World):(Op.eqFields (d+1) (op3C a).toArray (op3C b).toArray f.toList).run Tryz.prog w=.ok (eE a b) w:=by
 obtain ⟨a1,a2,a3⟩:=a
 obtain ⟨b1,b2,b3⟩:=b
 rw [h]
 unfold eE
 by_cases h1:a1=b1 <;> by_cases h2:a2=b2 <;> by_cases h3:a3=b3 <;> simp [Op.eqFields,go_sem,h1,h2,h3,Tryz.underlying3]
theorem equalExt0 (a b c a' b' c':Int) (w:World) :
 (Op.equalIn 10000 268 (.agg #[.int .i64 a,.int .i64 b,.int .i64 c]) (.agg #[.int .i64 a',.int .i64 b',.int .i64 c'])).run Tryz.prog w=.ok (eE (a,b,c) (a',b',c')) w:=by
 rw [run_equalIn_struct (P:=Tryz.prog) w 9999 268 _ _ (by kernel_rfl) (by kernel_rfl)]
 exact fieldsExt _ (by kernel_rfl) 9998 (a,b,c) (a',b',c') w
attribute [local go_sem high] equalExt0
def mrgL (g:Nat) (l:List Bool) (ks:List Int) (n:Nat):List Bool:=(List.range l.length).map fun k=>(List.range n).any (fun s=>decide (s / g=k) && (ks.getD s 0 == 1)) || l.getD k false
theorem mrgL_len (g:Nat) (l:List Bool) (ks:List Int) (n:Nat):(mrgL g l ks n).length=l.length:=by simp [mrgL]
theorem map_range_getD (f:Nat→Bool) {n k:Nat} (h:k<n):((List.range n).map f).getD k false=f k:=by
 rw [List.getD_eq_getElem?_getD,List.getElem?_map,List.getElem?_range h]
 rfl
theorem mrgL_getD (g:Nat) (l:List Bool) (ks:List Int) (n:Nat) {k:Nat} (h:k<l.length):(mrgL g l ks n).getD k false=((List.range n).any (fun s=>decide (s / g=k) && (ks.getD s 0 == 1)) || l.getD k false):=map_range_getD _ h
theorem any_iff (g k:Nat) (ks:List Int) (n:Nat):(List.range n).any (fun s=>decide (s / g=k) && (ks.getD s 0 == 1))=true ↔ ∃s,s<n∧s / g=k∧ks.getD s 0=1:=by
 rw [List.any_eq_true]
 constructor
 ·rintro ⟨s,hs,h⟩
  rw [Bool.and_eq_true,decide_eq_true_eq,beq_iff_eq] at h
  exact ⟨s,List.mem_range.1 hs,h.1,h.2⟩
 ·rintro ⟨s,hs,h1,h2⟩
  exact ⟨s,List.mem_range.2 hs,by rw [Bool.and_eq_true,decide_eq_true_eq,beq_iff_eq];exact ⟨h1,h2⟩⟩
theorem mrgL_zero (g:Nat) (l:List Bool) (ks:List Int):mrgL g l ks 0=l:=extB (mrgL_len _ _ _ _) fun k hk=>by
 rw [mrgL_getD _ _ _ _ (by rw [mrgL_len] at hk;exact hk)]
 simp
theorem mrgL_skip (g:Nat) (l:List Bool) (ks:List Int) {n m:Nat} (hnm:n≤m) (h:∀s,n≤s→s<m→ks.getD s 0≠1):mrgL g l ks m=mrgL g l ks n:=extB (by rw [mrgL_len,mrgL_len]) fun k hk=>by
 rw [mrgL_len] at hk
 rw [mrgL_getD _ _ _ _ hk,mrgL_getD _ _ _ _ hk]
 congr 1
 rw [Bool.eq_iff_iff,any_iff,any_iff]
 constructor
 ·rintro ⟨s,hs,h1,h2⟩
  refine ⟨s,?_,h1,h2⟩
  rcases Nat.lt_or_ge s n with h3 | h3
  ·exact h3
  ·exact absurd h2 (h s h3 hs)
 ·rintro ⟨s,hs,h1,h2⟩
  exact ⟨s,by omega,h1,h2⟩
theorem mrgL_set {S g:Nat} {l:List Bool} (ks:List Int) (hg:0<g) {n q:Nat} (hin:n+q≤S) (h:∀s,n≤s→s<n+q→ks.getD s 0=1):bSet S g (mrgL g l ks n) n q=mrgL g l ks (n+q):=by
 refine extB (by simp [bSet,mrgL_len]) fun k hk=>?_
 have hk':k<l.length:=by simpa [bSet,mrgL_len] using hk
 have e1:(bSet S g (mrgL g l ks n) n q).getD k false=(oneB S g n q k || (mrgL g l ks n).getD k false):=by
  unfold bSet
  exact map_range_getD _ (by rw [mrgL_len];exact hk')
 rw [e1,mrgL_getD _ _ _ _ hk',mrgL_getD _ _ _ _ hk',←Bool.or_assoc]
 congr 1
 rw [Bool.eq_iff_iff,Bool.or_eq_true,any_iff,any_iff]
 unfold oneB
 rw [decide_eq_true_eq]
 constructor
 ·rintro (h1 | ⟨s,hs,h1,h2⟩)
  ·refine ⟨max (k*g) n,by omega,?_,h _ (by omega) (by omega)⟩
   rw [Nat.div_eq_iff hg]
   omega
  ·exact ⟨s,by omega,h1,h2⟩
 ·rintro ⟨s,hs,h1,h2⟩
  rw [Nat.div_eq_iff hg] at h1
  rcases Nat.lt_or_ge s n with h3 | h3
  ·exact .inr ⟨s,h3,by rw [Nat.div_eq_iff hg];exact h1,h2⟩
  ·exact .inl (by omega)
def foldX (S g:Nat) (xs:List Op3) (l:List Bool):List Bool:=xs.foldl (fun l x=>bSet S g l x.1.toNat x.2.1.toNat) l
theorem foldX_snoc (S g:Nat) (xs:List Op3) (x:Op3) (l:List Bool):foldX S g (xs++[x]) l=bSet S g (foldX S g xs l) x.1.toNat x.2.1.toNat:=by unfold foldX;rw [List.foldl_append];rfl
theorem fold_mrg {S g:Nat} {l:List Bool} {E:List Op3} {ks:List Int} (hg:0<g) (hl:l.length=gran S g) (hR:RightE E ks) (hS:ks.length≤S):∀i,i≤E.length→foldX S g ((E.take i).filter fun x=>x.2.2 == 1) l=mrgL g l ks (flatE (E.take i)).length
 | 0,_=>by
   rw [show (flatE (E.take 0)).length=0 by simp [flatE],mrgL_zero]
   simp [foldX]
 | i+1,hi=>by
   have ih:=fold_mrg hg hl hR hS i (by omega)
   have hlt:i<E.length:=by omega
   have hx:=hR.2 i hlt
   have h2:=flat_take_le E (i+1)
   have hkind:=fun j hj=>hR.kind (j:=j) hlt hj
   rw [flat_step hlt,List.length_append,List.length_replicate,hR.1] at h2
   have hge:E[i]=E.getD i z3:=by rw [List.getD_eq_getElem?_getD,List.getElem?_eq_getElem hlt];rfl
   rw [flat_step hlt,List.length_append,List.length_replicate,List.take_succ_eq_append_getElem hlt,hge,List.filter_append]
   by_cases hk:(E.getD i z3).2.2=1
   ·rw [List.filter_cons,if_pos (beq_iff_eq.2 hk),List.filter_nil,foldX_snoc,ih,hx.1,Int.toNat_natCast]
    refine mrgL_set ks hg (by omega) fun s h3 h4=>?_
    have:=hkind (s - (flatE (E.take i)).length) (by omega)
    rw [show (flatE (E.take i)).length+(s - (flatE (E.take i)).length)=s by omega] at this
    rw [this,hk]
   ·rw [List.filter_cons,if_neg (by rw [beq_eq_false_iff_ne.2 hk];decide),List.filter_nil,List.append_nil,ih]
    refine (mrgL_skip g l ks (by omega) fun s h3 h4=>?_).symm
    have:=hkind (s - (flatE (E.take i)).length) (by omega)
    rw [show (flatE (E.take i)).length+(s - (flatE (E.take i)).length)=s by omega] at this
    rw [this]
    exact hk
def mrg (S g:Nat) (l:List Bool) (g2:Nat) (l2:List Bool):List Bool:=mrgL g l (kindsB S g2 l2 S) S
theorem mrg_fold {S g g2:Nat} {l l2:List Bool} (hg:0<g) (hl:l.length=gran S g) (hS:S≤4096):foldX S g (ofKind (ofE (kindsB S g2 l2 S)) 1) l=mrg S g l g2 l2:=by
 have hR:=RightE.of (kindsB S g2 l2 S)
 have hk:=kindsB_len S g2 l2 S
 have:=fold_mrg hg hl hR (by omega) _ (Nat.le_refl _)
 rw [List.take_length,hR.1,hk] at this
 unfold ofKind mrg
 rw [kinds_ofE (by omega)]
 exact this
theorem mrg_is {S g g2:Nat} {l l2:List Bool} (hg:0<g) (hl:l.length=gran S g) {s:Nat} (hs:s<S) (h:isB S g l s=true∨isB S g2 l2 s=true):isB S g (mrg S g l g2 l2) s=true:=by
 have hk:s / g<l.length:=by rw [hl];exact gran_at hg hs
 have e:∀m,isB S g m s=m.getD (s / g) false:=fun m=>by simp [isB,hs]
 rw [e]
 unfold mrg
 rw [mrgL_getD _ _ _ _ hk,Bool.or_eq_true,any_iff]
 rcases h with h | h
 ·rw [e] at h
  exact .inr h
 ·exact .inl ⟨s,hs,rfl,by rw [kindsB_getD S g2 l2 hs,if_pos h]⟩
section
attribute [local go_sem] Oper.semAt_some
theorem Merge_yes (tb mb S g:Nat) (l:List Bool) (tb2 mb2 g2:Nat) (l2:List Bool) (w:World) (h:BitW w tb mb S g l) (h2:BitW w tb2 mb2 S g2 l2) :
 Calls Tryz.prog 101 #[.pointer (some ⟨tb,0,none⟩),.pointer (some ⟨tb2,0,none⟩)] w fun e w'=>e=.returned (.int .i64 0)∧BitW w' tb mb S g (mrg S g l g2 l2)∧Fr [mb] w w':=by
 have hg:=h.grain
 have hS:=h.size
 have hl:=h.len
 have Hres:Hid (foldX S g (ofKind (ofE (kindsB S g2 l2 S)) 1) l=mrg S g l g2 l2):=hidIt (mrg_fold hg.1 hl hS)
 have keyR:=fun w h=>Row_calls tb2 mb2 S g2 l2 w h
 have keyS:=fun bl bk vl w h1 h2 h3=>each_seq bl bk vl (ofE (kindsB S g2 l2 S)) 1 w h1 h2 h3
 have Hpos:∀k,k<(ofKind (ofE (kindsB S g2 l2 S)) 1).length→Hid (0≤((ofKind (ofE (kindsB S g2 l2 S)) 1).getD k z3).1∧0≤((ofKind (ofE (kindsB S g2 l2 S)) 1).getD k z3).2.1∧((ofKind (ofE (kindsB S g2 l2 S)) 1).getD k z3).1+((ofKind (ofE (kindsB S g2 l2 S)) 1).getD k z3).2.1≤S):=fun k hk=>hidIt (by
  have hm:=List.mem_of_getElem? (getD_some z3 hk)
  have hm2:=(List.mem_filter.1 hm).1
  rw [kinds_ofE (by rw [kindsB_len];omega)] at hm2
  obtain ⟨i,hi,hie⟩:=List.getElem_of_mem hm2
  have hR:=RightE.of (kindsB S g2 l2 S)
  have h1:=hR.2 i hi
  have h2:=flat_take_le (ofE (kindsB S g2 l2 S)) (i+1)
  rw [flat_step hi,List.length_append,List.length_replicate,hR.1,kindsB_len] at h2
  have hge:(ofE (kindsB S g2 l2 S))[i]=(ofE (kindsB S g2 l2 S)).getD i z3:=by rw [List.getD_eq_getElem?_getD,List.getElem?_eq_getElem hi];rfl
  rw [hge] at hie
  rw [←hie]
  omega)
 have Hst:∀k,k<(ofKind (ofE (kindsB S g2 l2 S)) 1).length→Hid (foldX S g ((ofKind (ofE (kindsB S g2 l2 S)) 1).take (k+1)) l=bSet S g (foldX S g ((ofKind (ofE (kindsB S g2 l2 S)) 1).take k) l) ((ofKind (ofE (kindsB S g2 l2 S)) 1).getD k z3).1.toNat ((ofKind (ofE (kindsB S g2 l2 S)) 1).getD k z3).2.1.toNat):=fun k hk=>hidIt (by
  have hge:(ofKind (ofE (kindsB S g2 l2 S)) 1)[k]=(ofKind (ofE (kindsB S g2 l2 S)) 1).getD k z3:=by rw [List.getD_eq_getElem?_getD,List.getElem?_eq_getElem hk];rfl
  rw [List.take_succ_eq_append_getElem hk,hge,foldX_snoc])
 generalize ofKind (ofE (kindsB S g2 l2 S)) 1=xs at *
 generalize mrg S g l g2 l2=RES at *
 generalize ofE (kindsB S g2 l2 S)=E at *
 have hb:((S:Int) == (S:Int))=true:=by simp
 have hfa:=(Fr.refl [] w).alloc (.cells #[.pointer (some ⟨tb,0,none⟩)] 61)
 have B2:=Blk.new w [.pointer (some ⟨tb,0,none⟩)] 61
 have c:=(h.fr0 hfa).blk.cell
 have c2:=(h2.fr0 hfa).blk.cell
 have hlt:=h.lt
 have hne:=h.ne
 refine calls_marks Tryz.func101 rfl ?_
 simp only [Tryz.ntmps101,List.size_toArray,List.length_cons,List.length_nil,Nat.reduceAdd,Nat.reduceSub,Array.replicate_succ,Array.replicate_zero,List.push_toArray,List.append_toArray,List.nil_append,List.cons_append]
 go_wp2_with fail
 go_quiet (fail)
 rename_i nq
 have hFq:=hfa.drewN nq
 replace B2:=B2.drewN nq
 generalize hwq:World.drewN _ nq=wq at *
 have h0:=h.fr0 hFq
 have h20:=h2.fr0 hFq
 clear c c2 hfa hwq
 go_wp2_with fail
 refine (keyR _ h20).mono ?_
 rintro e w1 ⟨v1,rfl,s1,hf1⟩
 obtain ⟨a1,c1,rfl,_,_,_⟩:=s1.open
 replace B2:=B2.fr0 hf1
 have hF1:=hFq.trans0 hf1
 clear hf1 h0 h20 hFq
 go_wp2_with fail
 refine (sEach_calls _ 1 a1 E.length c1 rfl _).mono ?_
 rintro e w2 ⟨bl,bk,rfl,hbl,hbk,hf2,hb1,hb2⟩
 replace B2:=B2.fr0 hf2
 have hF2:=hF1.trans0 hf2
 have h0:=h.fr0 hF2
 have hseq:=keyS _ _ _ w2 hbl hbk (SlF.fr0 s1 hf2)
 have hz1:=hF1.size
 have hz2:=hF2.size
 have lq:=B2.lt
 have lk:=hbk.lt
 have heg:∀args w,(callFunc 188 args).run Tryz.prog w=.ok (.enter 188 args) w:=enters_of Tryz.func188 (by kernel_rfl) rfl
 clear keyR keyS hbl hbk s1 hf2 hF1
 go_wp2_with fail
 refine wp_rangeFunc_seq rfl heg hseq (Fr.refl _ _) (fun k f A=>f=[mb]∧BitW A tb mb S g (foldX S g (xs.take k) l)∧Blk A w.heap.size [.pointer (some ⟨tb,0,none⟩)] 61∧Fr [mb] w A) (fun _ _ _=>False) [mb] ?st (fun _ _ _ _ _ h _ _=>h) (by simp) (fun x hx=>by have:=List.mem_singleton.1 hx;subst this;exact ⟨by omega,fun h=>by omega⟩) ⟨rfl,h0,B2,hF2.weak⟩ ?round ?done (fun _ _ _ _ _ _ h _=>h.elim)
 case st =>
  rintro k f A B M' ⟨rfl,hW,hb2,hf⟩ hF hM
  have nm:∀x,x<w2.heap.size→x ∉ M':=fun x hx hm=>by rcases hM x hm with h | h;cases h;omega
  exact ⟨rfl,hW.fr hF (nm _ (by omega)) (nm _ (by omega)),stab_blk hb2 hF hM lq (by simp),hf.trans hF (fun x hx hlt=>absurd hx (nm x (by omega)))⟩
 case round =>
  rintro lp k f A args h1 h2' h3 h4 hk ⟨hfe,hW,hb2,hf⟩ rfl
  refine ⟨rfl,?_⟩
  have hst:=Hst k hk
  have hp:=Hpos k hk
  clear hseq heg Hst Hpos Hres
  generalize xs.getD k z3=x at *
  obtain ⟨p,q,r⟩:=x
  simp only at hst hp ⊢
  obtain ⟨p1,p2,p3⟩:=hp.out
  obtain ⟨P,rfl⟩:=Int.eq_ofNat_of_zero_le p1
  obtain ⟨Q,rfl⟩:=Int.eq_ofNat_of_zero_le p2
  rw [Int.toNat_natCast,Int.toNat_natCast] at hst
  gi_wp2
  refine ⟨⟨hfe,hW,hb2,hf⟩,Fr.refl _ _,?_⟩
  clear hW hb2 hf hfe
  rintro A2 ⟨rfl,hW,hb2,hf⟩ hF2 hsz2
  have hA2:w2.heap.size≤A2.heap.size:=by omega
  clear hsz2 hF2
  have cb:=hb2.cell
  gi_wp2_with fail
  refine ⟨trivial,rfl,(CallsIn.inRound lp (callsIn_wide.2 (bSet_yes tb mb S g _ P Q A2 hW (by omega)))).mono ?_⟩
  rintro e w5 ⟨rfl,hW5,hf5⟩
  have q5:=hf5.size
  gi_wp2
  exact ⟨_,⟨rfl,by rw [hst.out];exact hW5,hb2.fr hf5 (by simp;omega),hf.trans' hf5⟩,hf5,fun y hy=>by have:=List.mem_singleton.1 hy;subst this;exact ⟨by omega,.inl hy⟩⟩
 case done =>
  rintro D f W h1 h2' ⟨rfl,hW,hb2,hf⟩ hK
  rw [List.take_length,Hres.out] at hW
  clear hseq heg Hst Hpos Hres
  go_wp2
  refine leave_mark rfl hK (fun W' _=>results_tmp rfl _ _ _) fun W' hF=>⟨rfl,hW.fr hF (by simp;omega) (by simp;omega),hf.trans hF (fun x hx hlt=>by have:=List.mem_singleton.1 hx;omega)⟩
end
theorem oneC_map (L:List Cel) (s:List UInt8) (f:Ent→Ent):(oneC L s f).map (·.x)=oneE (L.map (·.x)) s f:=chC_E L _ f
theorem findC_isNone (L:List Cel) (s:List UInt8):findE (L.map (·.x)) s≠none ↔ findC L s≠none:=by
 rw [findC_E]
 cases findC L s <;> simp
structure OkE (x:Ent):Prop where
 name:okName x.name=true
 size:x.S≤4096
 pow:pow2 x.g=true
 len:x.l.length=gran x.S x.g
structure OkD (E:List Ent):Prop where
 all:∀x∈E,OkE x
 few:E.length≤8
 rising:E.Pairwise fun a b=>a.name<b.name
theorem DirW.ok {w:World} {db mb:Nat} {L:List Cel} (h:DirW w db mb L):OkD (L.map (·.x)):=by
 refine ⟨fun x hx=>?_,by rw [List.length_map];exact h.few,by rw [List.pairwise_map];exact h.rising⟩
 obtain ⟨c,hc,rfl⟩:=List.mem_map.1 hx
 have hE:=h.ents c hc
 exact ⟨h.names c hc,hE.bits.size,hE.pow,hE.bits.len⟩
end Go.Proofs.YtffnihooekbcnaaGreat
