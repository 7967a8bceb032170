/-
  Maps whose keys' type has the library's 'Keyed': what a map holds, as a function from keys; the operations, as equations on their runs. No program in sight.
-/
import Derived.Test.YtffnihooekbcnaaGreatG00
import Derived.Deep.QuietTactic
import Derived.BigQuiet
set_option maxRecDepth 100000
set_option maxHeartbeats 6400000
namespace Go.Proofs.YtffnihooekbcnaaGreat
open Go.RowKit Go.Maps Go.MapKept
def mapAt (w:World) (b:Nat):Option (Array MapEntry × Nat) :=
 match w.heap[b]? with
 | some (.map es clock)=>some (es,clock)
 | _=>none
theorem mapAt_some {w:World} {b:Nat} {es:Array MapEntry} {c:Nat}:mapAt w b=some (es,c) ↔ w.heap[b]? = some (.map es c):=by
 unfold mapAt
 split <;> simp_all
def putMap (w:World) (b:Nat) (es:Array MapEntry) (c:Nat):World:={ w with heap:=w.heap.setIfInBounds b (.map es c) }
theorem mapAt_lt {w:World} {b:Nat} {x:Array MapEntry × Nat} (h:mapAt w b=some x):b<w.heap.size:=by
 obtain ⟨es,c⟩:=x
 exact (Array.getElem?_eq_some_iff.1 (mapAt_some.1 h)).1
theorem mapAt_putMap {w:World} {b:Nat} (h:b<w.heap.size) (es:Array MapEntry) (c:Nat):mapAt (putMap w b es c) b=some (es,c):=by
 rw [mapAt_some];simp [putMap,h]
theorem putMap_fr (w:World) (b:Nat) (es:Array MapEntry) (c:Nat):Fr [b] w (putMap w b es c) :=
 ⟨rfl,rfl,rfl,by simp [putMap],fun k _ hn=>by simp [putMap,Array.getElem?_setIfInBounds];intro e;simp [e] at hn⟩
theorem mapAt_alloc {w:World} {b:Nat} (o:Obj) (h:b<w.heap.size):mapAt (w.alloc o) b=mapAt w b:=by
 unfold mapAt;rw [Below.heap_alloc w o b h]
theorem mapAt_setCell {w:World} {b:Nat} (p:Addr) (v:Value):mapAt (w.setCell p v) b=mapAt w b:=by
 unfold mapAt
 simp only [World.setCell,Array.getElem?_modify]
 by_cases h:p.block=b
 ·rw [if_pos h]
  cases hx:w.heap[b]? with
  | none=>simp
  | some o=>cases o <;> simp
 ·rw [if_neg h]
theorem mapAt_drew {w:World} {b:Nat}:mapAt w.drew b=mapAt w b:=rfl
theorem mapAt_drewN {w:World} {b n:Nat}:mapAt (w.drewN n) b=mapAt w b:=rfl
theorem mapAt_fr {L:List Nat} {w w':World} {b:Nat} {x:Array MapEntry × Nat} (h:mapAt w b=some x) (hf:Fr L w w') (hn:b ∉ L):mapAt w' b=some x:=by
 obtain ⟨es,c⟩:=x
 exact mapAt_some.2 ((hf.block b (mapAt_lt h) hn).trans (mapAt_some.1 h))
structure IsM (P:Program) (K:TypeId) (es:Array MapEntry) (clock:Nat) (m:Value→Option Value):Prop where
 keys:∀e∈es.toList,∃l,keyOf P K e.key=some l
 apart:es.toList.Pairwise (fun a b=>a.key≠b.key)
 get:∀x v,m x=some v ↔ ∃e∈es.toList,e.key=x∧e.val=v
 born:∀e∈es.toList,e.born<clock
 stamps:es.toList.Pairwise (fun a b=>a.born≠b.born)
open Classical in
noncomputable def upd (m:Value→Option Value) (k:Value) (v:Option Value):Value→Option Value:=fun x=>if x=k then v else m x
theorem upd_same (m:Value→Option Value) (k:Value) (v:Option Value):upd m k v k=v:=by simp [upd]
theorem upd_other (m:Value→Option Value) {k x:Value} (v:Option Value) (h:x≠k):upd m k v x=m x:=by simp [upd,h]
section
variable {P:Program} {K:TypeId} {es:Array MapEntry} {clock:Nat} {m:Value→Option Value}
theorem IsM.empty:IsM P K #[] 0 (fun _=>none):=⟨by simp,by simp,by simp,by simp,by simp⟩
theorem IsM.none_iff (h:IsM P K es clock m) (x:Value):m x=none ↔ ∀e∈es.toList,e.key≠x:=by
 constructor
 ·intro hn e he hk
  have:=(h.get x e.val).2 ⟨e,he,hk,rfl⟩
  rw [hn] at this;cases this
 ·intro ha
  cases hv:m x with
  | none=>rfl
  | some v=>obtain ⟨e,he,hk,_⟩:=(h.get x v).1 hv;exact absurd hk (ha e he)
theorem IsM.find (h:IsM P K es clock m) (Ky:Keyed P K) (w:World) {x:Value} {lx:Lit} (hx:keyOf P K x=some lx) :
 ((Instr.findKey K x es.toList).run P w=.ok none w∧m x=none) ∨
 ∃j e,(Instr.findKey K x es.toList).run P w=.ok (some (j,e.val)) w∧es[j]? = some e∧e.key=x∧m x=some e.val:=by
 rcases Ky.find w hx es.toList h.keys with ⟨hr,hn⟩ | ⟨j,e,hr,hj,he⟩
 ·exact .inl ⟨hr,(h.none_iff x).2 hn⟩
 ·have hj':es[j]? = some e:=by simpa using hj
  exact .inr ⟨j,e,hr,hj',he,(h.get x e.val).2 ⟨e,List.mem_of_getElem? hj,he,rfl⟩⟩
theorem run_lookup_isM {T E:TypeId} (ht:P.underlying T=some (.map K E)) (Ky:Keyed P K) (h:IsM P K es clock m) {z:Value} (c:Bool) {x:Value} {lx:Lit} (hx:keyOf P K x=some lx)
 (w:World) (hz:(zeroValue E).run P w=.ok z w) {b:Nat} (hb:mapAt w b=some (es,clock)) :
 (Instr.lookup T (.map (some b)) x c).run P w=.ok (if c then .tuple #[(m x).getD z,.bool (m x).isSome] else (m x).getD z) w:=by
 have hb':=mapAt_some.1 hb
 have hck:=Ky.check w es.isEmpty hx
 rcases h.find Ky w hx with ⟨hr,hn⟩ | ⟨j,e,hr,_,_,hv⟩
 ·simp only [Instr.lookup,Sem.run_bind,run_underlying ht,Result.andThen_ok]
  simp [getObj,Sem.run,hb',hck,hr,hz,hn,Result.andThen]
 ·simp only [Instr.lookup,Sem.run_bind,run_underlying ht,Result.andThen_ok]
  simp [getObj,Sem.run,hb',hck,hr,hv,Result.andThen]
theorem run_mapUpdate_isM {T E:TypeId} (ht:P.underlying T=some (.map K E)) (Ky:Keyed P K) (h:IsM P K es clock m) {x:Value} {lx:Lit} (hx:keyOf P K x=some lx) (v:Value)
 (w:World) {b:Nat} (hb:mapAt w b=some (es,clock)) :
 ∃es' clock',(Instr.mapUpdate T (.map (some b)) x v).run P w=.ok () (putMap w b es' clock')∧IsM P K es' clock' (upd m x (some v)):=by
 have hb':=mapAt_some.1 hb
 have hck:=Ky.check w false hx
 rcases h.find Ky w hx with ⟨hr,hn⟩ | ⟨j,e,hr,hj,he,hv⟩
 ·refine ⟨es.push { key:=x,val:=v,born:=clock },clock+1,?_,?_,?_,?_,?_,?_⟩
  ·simp only [Instr.mapUpdate,Sem.run_bind,run_underlying ht,Result.andThen_ok]
   simp [getObj,setObj,Sem.run,hb',hck,hr,Result.andThen,putMap]
  ·intro e he
   simp at he
   rcases he with he | rfl
   ·exact h.keys e (by simpa using he)
   ·exact ⟨lx,hx⟩
  ·simp only [Array.toList_push,List.pairwise_append]
   refine ⟨h.apart,by simp,fun a ha b hb=>?_⟩
   simp at hb
   subst hb
   exact ((h.none_iff x).1 hn) a ha
  ·intro y u
   by_cases hy:y=x
   ·subst hy
    rw [upd_same]
    constructor
    ·intro hu
     cases hu
     exact ⟨{ key:=y,val:=v,born:=clock },by simp,rfl,rfl⟩
    ·rintro ⟨e,he,hk,hv⟩
     rw [Array.toList_push,List.mem_append] at he
     rcases he with he | he
     ·exact absurd hk ((h.none_iff y).1 hn e he)
     ·rw [List.mem_singleton] at he
      subst he
      exact congrArg some hv
   ·rw [upd_other _ _ hy,h.get]
    constructor
    ·rintro ⟨e,he,hk,hv⟩
     exact ⟨e,by rw [Array.toList_push,List.mem_append];exact .inl he,hk,hv⟩
    ·rintro ⟨e,he,hk,hv⟩
     rw [Array.toList_push,List.mem_append] at he
     rcases he with he | he
     ·exact ⟨e,he,hk,hv⟩
     ·rw [List.mem_singleton] at he
      subst he
      exact absurd hk.symm hy
  ·intro e he
   simp at he
   rcases he with he | rfl
   ·exact Nat.lt_succ_of_lt (h.born e (by simpa using he))
   ·exact Nat.lt_succ_self _
  ·simp only [Array.toList_push,List.pairwise_append]
   refine ⟨h.stamps,by simp,fun a ha b hb=>?_⟩
   simp at hb
   subst hb
   exact Nat.ne_of_lt (h.born a ha)
 ·have hst:=Ky.stays w hx
  have hlt:j<es.size:=(Array.getElem?_eq_some_iff.1 hj).1
  have hje:es[j]=e:=(Array.getElem?_eq_some_iff.1 hj).2
  refine ⟨es.modify j fun e=>{ e with key:=x,val:=v },clock,?_,?_⟩
  ·simp only [Instr.mapUpdate,Sem.run_bind,run_underlying ht,Result.andThen_ok]
   simp [getObj,setObj,Sem.run,hb',hck,hr,Result.andThen,putMap,hj,he,hst]
  ·have hkey:∀i (hi:i<(es.modify j fun e=>{ e with key:=x,val:=v }).size),((es.modify j fun e=>{ e with key:=x,val:=v })[i]).key=(es[i]'(by simpa using hi)).key∧((es.modify j fun e=>{ e with key:=x,val:=v })[i]).born=(es[i]'(by simpa using hi)).born ∧
    (i≠j→(es.modify j fun e=>{ e with key:=x,val:=v })[i]=es[i]'(by simpa using hi)):=by
    intro i hi
    rw [Array.getElem_modify]
    split
    ·rename_i hij
     subst hij
     exact ⟨by simp [hje,he],rfl,fun hne=>absurd rfl hne⟩
    ·exact ⟨rfl,rfl,fun _=>rfl⟩
   have hj2:j<(es.modify j fun e=>{ e with key:=x,val:=v }).size:=by simpa using hlt
   have hat:(es.modify j fun e=>{ e with key:=x,val:=v })[j]={ key:=x,val:=v,born:=e.born }:=by
    rw [Array.getElem_modify,if_pos rfl,hje]
   refine ⟨?_,?_,?_,?_,?_⟩
   ·intro e' he'
    obtain ⟨i,hi,rfl⟩:=List.getElem_of_mem he'
    have hi':i<(es.modify j fun e=>{ e with key:=x,val:=v }).size:=by simpa using hi
    have:=(hkey i hi').1
    rw [Array.getElem_toList,this]
    exact h.keys _ (by simp)
   ·rw [List.pairwise_iff_getElem]
    intro i k hi hk hik
    rw [Array.getElem_toList,Array.getElem_toList,(hkey i (by simpa using hi)).1,(hkey k (by simpa using hk)).1]
    have:=(List.pairwise_iff_getElem.1 h.apart) i k (by simpa using hi) (by simpa using hk) hik
    simpa using this
   ·intro y u
    by_cases hy:y=x
    ·subst hy
     rw [upd_same]
     constructor
     ·intro hu
      simp at hu
      subst hu
      exact ⟨_,Array.mem_toList_iff.2 (Array.getElem_mem hj2),by rw [hat],by rw [hat]⟩
     ·rintro ⟨e',he',hk,rfl⟩
      obtain ⟨i,hi,rfl⟩:=List.getElem_of_mem he'
      have hi':i<(es.modify j fun e=>{ e with key:=y,val:=v }).size:=by simpa using hi
      rw [Array.getElem_toList] at hk ⊢
      have hij:i=j:=by
       have hki:=(hkey i hi').1
       rw [hki] at hk
       rcases Nat.lt_trichotomy i j with hlt' | heq | hgt
       ·exact absurd (by rw [Array.getElem_toList,Array.getElem_toList,hk,hje,he]) ((List.pairwise_iff_getElem.1 h.apart) i j (by simpa using hi') (by simpa using hlt) hlt')
       ·exact heq
       ·exact absurd (by rw [Array.getElem_toList,Array.getElem_toList,hk,hje,he]) ((List.pairwise_iff_getElem.1 h.apart) j i (by simpa using hlt) (by simpa using hi') hgt)
      subst hij
      rw [hat]
    ·rw [upd_other _ _ hy,h.get]
     constructor
     ·rintro ⟨e',he',hk,hv'⟩
      obtain ⟨i,hi,rfl⟩:=List.getElem_of_mem he'
      rw [Array.getElem_toList] at hk hv'
      have hi0:i<es.size:=by simpa using hi
      have hij:i≠j:=by rintro rfl;rw [hje,he] at hk;exact hy hk.symm
      have:=(hkey i (by simpa using hi0)).2.2 hij
      exact ⟨_,by rw [Array.mem_toList_iff];exact Array.getElem_mem (by simpa using hi0),by rw [this];exact hk,by rw [this];exact hv'⟩
     ·rintro ⟨e',he',hk,hv'⟩
      obtain ⟨i,hi,rfl⟩:=List.getElem_of_mem he'
      rw [Array.getElem_toList] at hk hv'
      have hi':i<(es.modify j fun e=>{ e with key:=x,val:=v }).size:=by simpa using hi
      have hij:i≠j:=by rintro rfl;rw [hat] at hk;exact hy hk.symm
      have:=(hkey i hi').2.2 hij
      rw [this] at hk hv'
      exact ⟨_,by rw [Array.mem_toList_iff];exact Array.getElem_mem (by simpa using hi'),hk,hv'⟩
   ·intro e' he'
    obtain ⟨i,hi,rfl⟩:=List.getElem_of_mem he'
    rw [Array.getElem_toList,(hkey i (by simpa using hi)).2.1]
    exact h.born _ (by simp)
   ·rw [List.pairwise_iff_getElem]
    intro i k hi hk hik
    rw [Array.getElem_toList,Array.getElem_toList,(hkey i (by simpa using hi)).2.1,(hkey k (by simpa using hk)).2.1]
    have:=(List.pairwise_iff_getElem.1 h.stamps) i k (by simpa using hi) (by simpa using hk) hik
    simpa using this
theorem run_delete_isM {T E A2:TypeId} {ty:TypeId} (ht:P.underlying T=some (.map K E)) (Ky:Keyed P K) (h:IsM P K es clock m) {x:Value} {lx:Lit} (hx:keyOf P K x=some lx)
 (w:World) {b:Nat} (hb:mapAt w b=some (es,clock)) :
 ∃es',(Builtin.delete_ #[T,A2] ty #[.map (some b),x]).run P w=.ok (.tuple #[]) (putMap w b es' clock)∧IsM P K es' clock (upd m x none)∧es'.toList.Sublist es.toList:=by
 have hb':=mapAt_some.1 hb
 have hck:=Ky.check w es.isEmpty hx
 rcases h.find Ky w hx with ⟨hr,hn⟩ | ⟨j,e,hr,hj,he,hv⟩
 ·refine ⟨es,?_,⟨h.keys,h.apart,?_,h.born,h.stamps⟩,List.Sublist.refl _⟩
  ·simp [Builtin.delete_,run_underlying ht,getObj,setObj,Sem.run,hb',hck,hr,Result.andThen,putMap]
  ·intro y u
   by_cases hy:y=x
   ·subst hy
    rw [upd_same,←hn,h.get]
   ·rw [upd_other _ _ hy,h.get]
 ·have hlt:j<es.size:=(Array.getElem?_eq_some_iff.1 hj).1
  have hje:es[j]=e:=(Array.getElem?_eq_some_iff.1 hj).2
  have hl:(es.eraseIdxIfInBounds j).toList=es.toList.eraseIdx j:=by simp [Array.eraseIdxIfInBounds,hlt]
  have hsub:(es.toList.eraseIdx j).Sublist es.toList:=List.eraseIdx_sublist ..
  refine ⟨es.eraseIdxIfInBounds j,?_,⟨?_,?_,?_,?_,?_⟩,by rw [hl];exact hsub⟩
  ·simp [Builtin.delete_,run_underlying ht,getObj,setObj,Sem.run,hb',hck,hr,Result.andThen,putMap]
  ·intro e' he'
   rw [hl] at he'
   exact h.keys e' (hsub.subset he')
  ·rw [hl];exact h.apart.sublist hsub
  ·intro y u
   rw [hl]
   by_cases hy:y=x
   ·subst hy
    rw [upd_same]
    constructor
    ·intro h';cases h'
    ·rintro ⟨e',he',hk,_⟩
     exfalso
     rw [List.mem_eraseIdx_iff_getElem] at he'
     obtain ⟨i,hi,hne,rfl⟩:=he'
     rcases Nat.lt_trichotomy i j with hlt' | heq | hgt
     ·exact absurd (by rw [hk,Array.getElem_toList,hje,he]) ((List.pairwise_iff_getElem.1 h.apart) i j hi (by simpa using hlt) hlt')
     ·exact hne heq
     ·exact absurd (by rw [hk,Array.getElem_toList,hje,he]) ((List.pairwise_iff_getElem.1 h.apart) j i (by simpa using hlt) hi hgt)
   ·rw [upd_other _ _ hy,h.get]
    constructor
    ·rintro ⟨e',he',hk,hv'⟩
     refine ⟨e',?_,hk,hv'⟩
     obtain ⟨i,hi,rfl⟩:=List.getElem_of_mem he'
     rw [List.mem_eraseIdx_iff_getElem]
     refine ⟨i,hi,?_,rfl⟩
     rintro rfl
     rw [Array.getElem_toList,hje,he] at hk
     exact hy hk.symm
    ·rintro ⟨e',he',hk,hv'⟩
     exact ⟨e',hsub.subset he',hk,hv'⟩
  ·intro e' he'
   rw [hl] at he'
   exact h.born e' (hsub.subset he')
  ·rw [hl];exact h.stamps.sublist hsub
theorem run_len_map {T:TypeId} {ty:TypeId} {E:TypeId} (ht:P.underlying T=some (.map K E)) (w:World) {b:Nat} (hb:mapAt w b=some (es,clock)) :
 (Builtin.len_ #[T] ty #[.map (some b)]).run P w=.ok (.int .i64 es.size) w:=by
 have hb':=mapAt_some.1 hb
 simp [Builtin.len_,run_underlying ht,getObj,Sem.run,hb',goInt]
theorem IsM.size (h:IsM P K es clock m) {ks:List Value} (hd:ks.Pairwise (·≠·)) (hk:∀x,x∈ks ↔ (m x).isSome=true):es.size=ks.length:=by
 have hp:(es.toList.map (·.key)).Perm ks:=by
  have h1:(es.toList.map (·.key)).Nodup:=by rw [List.Nodup,List.pairwise_map];exact h.apart
  classical
  rw [List.perm_ext_iff_of_nodup h1 hd]
  intro x
  rw [hk]
  simp only [List.mem_map]
  constructor
  ·rintro ⟨e,he,rfl⟩
   rw [(h.get e.key e.val).2 ⟨e,he,rfl,rfl⟩];rfl
  ·intro hx
   obtain ⟨v,hv⟩:=Option.isSome_iff_exists.1 hx
   obtain ⟨e,he,hk',_⟩:=(h.get x v).1 hv
   exact ⟨e,he,hk'⟩
 have:=hp.length_eq
 simpa using this
theorem wpList_delete_isM {ops:Array Oper} {rest:List Oper} {o:Oper} {a:Act} {Q:Exit→Act→World→Prop} {w:World} (hg:o.guard=none) (x y:Operand) (T A2:TypeId)
 (ho:o.op=.call { callee:=.builtin .delete,args:=#[x,y],argTypes:=#[T,A2] }) {E:TypeId} (ht:P.underlying T=some (.map K E)) (Ky:Keyed P K) (h:IsM P K es clock m) (b:Nat)
 (hx:a.eval x=.map (some b)) (k:Value) (hy:a.eval y=k) {lx:Lit} (hk:keyOf P K k=some lx) (hb:mapAt w b=some (es,clock))
 (hK:∀es',IsM P K es' clock (upd m k none)→wpList P ops Q rest (a.put o.dst (.tuple #[])) (putMap w b es' clock)):wpList P ops Q (o :: rest) a w :=
 wpList_plain hg fun K' hK'=>by
  obtain ⟨es',hr,hi,_⟩:=run_delete_isM (P:=P) (A2:=A2) (ty:=o.type) ht Ky h hk w hb
  unfold Oper.wp execOp
  simp only [ho,resolve,invoke,builtin,Sem.run_bind,Sem.run_pure,Result.andThen_ok,List.map_toArray,List.map_cons,List.map_nil,hx,hy,hr]
  exact hK' _ _ (hK es' hi)
theorem wpList_mapUpdate_isM {ops:Array Oper} {rest:List Oper} {o:Oper} {a:Act} {Q:Exit→Act→World→Prop} {w:World} (hg:o.guard=none) (x y z:Operand) (T:TypeId)
 (ho:o.op=.mapUpdate T x y z) {E:TypeId} (ht:P.underlying T=some (.map K E)) (Ky:Keyed P K) (h:IsM P K es clock m) (b:Nat)
 (hx:a.eval x=.map (some b)) (k:Value) (hy:a.eval y=k) (v:Value) (hz:a.eval z=v) {lx:Lit} (hk:keyOf P K k=some lx) (hb:mapAt w b=some (es,clock))
 (hK:∀es' clock',IsM P K es' clock' (upd m k (some v))→wpList P ops Q rest (a.put o.dst undef) (putMap w b es' clock')):wpList P ops Q (o :: rest) a w :=
 wpList_plain hg fun K' hK'=>by
  obtain ⟨es',clock',hr,hi⟩:=run_mapUpdate_isM (P:=P) ht Ky h hk v w hb
  unfold Oper.wp execOp
  simp only [ho,hx,hy,hz,Sem.run_bind,Sem.run_pure,Result.andThen_ok,hr]
  exact hK' _ _ (hK es' clock' hi)
end
end Go.Proofs.YtffnihooekbcnaaGreat
namespace Go.Proofs.YtffnihooekbcnaaGreat
def gran (S g:Nat):Nat:=(S+g - 1) / g
theorem ceil_lt {X g k:Nat} (hg:0<g):k<(X+g - 1) / g ↔ k*g<X:=by
 rw [Nat.lt_div_iff_mul_lt hg]
 omega
theorem div_le {X g k:Nat} (hg:0<g):X / g≤k ↔ X<k*g+g:=by
 rw [←Nat.lt_succ_iff,Nat.div_lt_iff_lt_mul hg,Nat.succ_mul]
theorem ceil_le {X g k:Nat} (hg:0<g):(X+g - 1) / g≤k ↔ X≤k*g:=by
 have:=@ceil_lt X g k hg
 omega
theorem lt_div {X g k:Nat} (hg:0<g):k<X / g ↔ k*g+g≤X:=by
 have:=@div_le X g k hg
 omega
def oneB (S g f n k:Nat):Bool:=decide (max (k*g) f<min (min (k*g+g) S) (f+n))
def allB (S g f n k:Nat):Bool:=decide (f≤k*g) && decide (min (k*g+g) S≤f+n)
theorem one_iff {S g f n k:Nat} (hg:0<g) (hk:k*g<S) (hin:f+n≤S):oneB S g f n k=true ↔ n≠0∧f / g≤k∧k<(f+n+g - 1) / g:=by
 rw [div_le hg,ceil_lt hg]
 simp only [oneB,decide_eq_true_eq]
 omega
theorem all_iff {S g f n k:Nat} (hg:0<g) (hk:k*g<S) (hin:f+n≤S):allB S g f n k=true ↔ (f+g - 1) / g≤k∧k<(if f+n=S then gran S g else (f+n) / g):=by
 rw [ceil_le hg]
 simp only [allB,Bool.and_eq_true,decide_eq_true_eq]
 split
 ·unfold gran
  rw [ceil_lt hg]
  omega
 ·rw [lt_div hg]
  omega
theorem gran_at {S g s:Nat} (hg:0<g) (hs:s<S):s / g<gran S g:=by
 unfold gran
 rw [ceil_lt hg]
 exact Nat.lt_of_le_of_lt (Nat.div_mul_le_self s g) hs
def bSet (S g:Nat) (l:List Bool) (f n:Nat):List Bool:=(List.range l.length).map fun k=>oneB S g f n k || l.getD k false
def bClear (S g:Nat) (l:List Bool) (f n:Nat):List Bool:=(List.range l.length).map fun k=>!allB S g f n k && l.getD k false
end Go.Proofs.YtffnihooekbcnaaGreat
namespace Go.Proofs.YtffnihooekbcnaaGreat
open Go.RowKit Go.Maps
theorem bFollows:Tryz.prog.follows .mixedOrders=true:=by kernel_rfl
def bitM (l:List Bool):Value→Option Value
 | .int .i64 k=>if 0≤k∧l.getD k.toNat false=true then some (.int .i64 1) else none
 | _=>none
theorem bitM_int (l:List Bool) (k:Int):bitM l (.int .i64 k)=if 0≤k∧l.getD k.toNat false=true then some (.int .i64 1) else none:=rfl
structure BitW (w:World) (tb mb S g:Nat) (l:List Bool):Prop where
 blk:Blk w tb [.int .i64 S,.int .i64 g,.map (some mb)] 140
 size:S≤4096
 grain:0<g∧g≤64
 len:l.length=gran S g
 map:∃es clock,mapAt w mb=some (es,clock)∧IsM Tryz.prog 3 es clock (bitM l)
theorem BitW.lt {w:World} {tb mb S g:Nat} {l:List Bool} (h:BitW w tb mb S g l):tb<w.heap.size∧mb<w.heap.size:=by
 obtain ⟨es,c,hm,_⟩:=h.map
 exact ⟨h.blk.lt,mapAt_lt hm⟩
theorem BitW.ne {w:World} {tb mb S g:Nat} {l:List Bool} (h:BitW w tb mb S g l):tb≠mb:=by
 rintro rfl
 obtain ⟨es,c,hm,_⟩:=h.map
 have:=(mapAt_some.1 hm).symm.trans h.blk
 cases this
theorem BitW.fr {L:List Nat} {w w':World} {tb mb S g:Nat} {l:List Bool} (h:BitW w tb mb S g l) (hf:Fr L w w') (h1:tb ∉ L) (h2:mb ∉ L):BitW w' tb mb S g l:=by
 obtain ⟨es,c,hm,hi⟩:=h.map
 exact ⟨h.blk.fr hf h1,h.size,h.grain,h.len,es,c,mapAt_fr hm hf h2,hi⟩
theorem BitW.fr0 {w w':World} {tb mb S g:Nat} {l:List Bool} (h:BitW w tb mb S g l) (hf:Fr [] w w'):BitW w' tb mb S g l:=h.fr hf (by simp) (by simp)
theorem gran_le {S g:Nat} (hS:S≤4096) (hg:0<g):gran S g≤4096:=by
 have:¬4096<gran S g:=by
  unfold gran
  rw [ceil_lt hg]
  have:4096*1≤4096*g:=Nat.mul_le_mul_left _ hg
  omega
 omega
theorem bKeyInt:Keyed Tryz.prog 3:=int_keyed Tryz.underlying3
theorem bKeyI {k:Int} (h0:0≤k) (h1:k<1000000):keyOf Tryz.prog 3 (.int .i64 k)=some (.int .i64 k):=keyOf_int_mk Tryz.underlying3 (by simp [Lit.wf,IntKind.min,IntKind.max,IntKind.signed,IntKind.bits];omega)
attribute [local go_sem] mapAt_alloc mapAt_setCell mapAt_drew mapAt_drewN
def okSec (n:Int):Bool:=decide (0≤n) && decide (n≤4096)
theorem bRight_calls (s:Int) (w:World):Calls Tryz.prog 88 #[.int .i64 s] w fun e w'=>e=.returned (.bool (okSec s))∧w=w':=by
 have H1:0≤s→Hid (okSec s=decide (s≤4096)):=fun h=>by simp [Hid,okSec,h]
 have H2:s<0→Hid (okSec s=false):=fun h=>by simp [Hid,okSec];omega
 go_enter Tryz.func88,Tryz.ntmps88
 go_wp2
 all_goals go_ret
 ·exact ⟨ret_bool (H1 ‹_›).out.symm,rfl⟩
 ·exact ⟨ret_bool (H2 ‹_›).out.symm,rfl⟩
theorem Sectors_calls (tb mb S g:Nat) (l:List Bool) (w:World) (h:BitW w tb mb S g l):Calls Tryz.prog 56 #[.pointer (some ⟨tb,0,none⟩)] w fun e w'=>e=.returned (.int .i64 S)∧w=w':=by
 have c:=h.blk.cell
 go_enter Tryz.func56,Tryz.ntmps56
 go_wp2
 go_ret
 exact ⟨rfl,rfl⟩
theorem granules_calls (tb mb S g:Nat) (l:List Bool) (w:World) (h:BitW w tb mb S g l):Calls Tryz.prog 164 #[.pointer (some ⟨tb,0,none⟩)] w fun e w'=>e=.returned (.int .i64 (gran S g))∧Fr [] w w':=by
 have c:=h.blk.cell
 have hs:=h.size
 have hg:=h.grain
 go_enter Tryz.func164,Tryz.ntmps164
 have hg0:(0:Int)<g:=by omega
 have hgn:¬(g:Int)=0:=by omega
 have hq:Int.tdiv ((S:Int)+g - 1) g=(gran S g:Nat):=by
  unfold gran
  have e:(S:Int)+g - 1=((S+g - 1:Nat):Int):=by omega
  rw [e,Int.ofNat_tdiv]
 have hle:=gran_le hs hg.1
 go_wp2_with fail
 go_quiet (fail)
 go_wp2
 go_ret
 exact ⟨rfl,(Fr.refl _ _).drewN _⟩
theorem look_bit {w:World} {mb:Nat} {l:List Bool} {es:Array MapEntry} {clock:Nat} (hi:IsM Tryz.prog 3 es clock (bitM l)) (hm:mapAt w mb=some (es,clock)) (k:Nat) (hk:k<1000000) :
 (Instr.lookup 138 (.map (some mb)) (.int .i64 (k:Int)) false).run Tryz.prog w=.ok (.int .i64 (if l.getD k false=true then 1 else 0)) w:=by
 rw [run_lookup_isM (z:=.int .i64 0) Tryz.underlying138 bKeyInt hi false (bKeyI (by omega) (by omega)) w (by kernel_rfl) hm,bitM_int]
 have e:((k:Int)).toNat=k:=Int.toNat_natCast k
 rw [e]
 generalize l.getD k false=q
 cases q <;> simp
def isB (S g:Nat) (l:List Bool) (s:Int):Bool:=decide (0≤s) && decide (s<S) && l.getD (s.toNat / g) false
theorem Is_calls (tb mb S g:Nat) (l:List Bool) (s:Int) (w:World) (h:BitW w tb mb S g l):Calls Tryz.prog 97 #[.pointer (some ⟨tb,0,none⟩),.int .i64 s] w fun e w'=>e=.returned (.bool (isB S g l s))∧Fr [] w w':=by
 have c:=h.blk.cell
 have hs:=h.size
 have hg:=h.grain
 have hg0:(0:Int)<g:=by omega
 have hgn:¬(g:Int)=0:=by omega
 obtain ⟨es,clock,hm,hi⟩:=h.map
 have Hd:Hid (isB S g l s=(decide (0≤s) && decide (s<S) && l.getD (s.toNat / g) false)):=hidIt rfl
 by_cases h0:0≤s
 ·obtain ⟨n,rfl⟩:=Int.eq_ofNat_of_zero_le h0
  by_cases h1:(n:Int)<S
  ·have h1':n<S:=by omega
   have hq:Int.tdiv (n:Int) g=((n / g:Nat):Int):=Int.ofNat_tdiv n g
   have hkn:=Nat.div_le_self n g
   have Hd2:Hid (isB S g l n=l.getD (n / g) false):=hidIt (by rw [Hd.out];simp [h1'])
   generalize n / g=k at *
   have hlook:∀W,mapAt W mb=some (es,clock)→(Instr.lookup 138 (.map (some mb)) (.int .i64 (k:Int)) false).run Tryz.prog W=.ok (.int .i64 (if l.getD k false=true then 1 else 0)) W:=fun W hW=>look_bit hi hW k (by omega)
   have hqw:IntKind.i64.wrap (k:Int)=(k:Int):=IntWalk.i64_in _ (by omega)
   generalize l.getD k false=q at *
   cases q
   all_goals go_enter Tryz.func97,Tryz.ntmps97
   all_goals go_wp2_with fail
   all_goals go_quiet (fail)
   all_goals go_wp2
   all_goals go_ret
   all_goals exact ⟨ret_bool (by rw [Hd2.out]),(Fr.refl _ _).drewN _⟩
  ·have h1':¬n<S:=by omega
   go_enter Tryz.func97,Tryz.ntmps97
   go_wp2_with fail
   go_quiet (fail)
   go_wp2
   go_ret
   exact ⟨ret_bool (by rw [Hd.out];simp [h1']),(Fr.refl _ _).drewN _⟩
 ·have hd:decide (0≤s)=false:=by simp;omega
  go_enter Tryz.func97,Tryz.ntmps97
  go_wp2_with fail
  go_quiet (fail)
  go_wp2
  go_ret
  exact ⟨ret_bool (by rw [Hd.out,hd];rfl),(Fr.refl _ _).drewN _⟩
end Go.Proofs.YtffnihooekbcnaaGreat
namespace Go.Proofs.YtffnihooekbcnaaGreat
open Go.RowKit Go.Maps
attribute [local go_sem] mapAt_alloc mapAt_setCell mapAt_drew mapAt_drewN
theorem getD_setB (l:List Bool) (c n:Nat) (b:Bool) (hc:c<l.length):(l.set c b).getD n false=if n=c then b else l.getD n false:=by
 rw [List.getD_eq_getElem?_getD,List.getElem?_set,List.getD_eq_getElem?_getD]
 by_cases h:c=n
 ·subst h;simp [hc]
 ·rw [if_neg h,if_neg (fun e=>h e.symm)]
theorem bitM_set {l:List Bool} {c:Nat} (b:Bool) (hc:c<l.length):bitM (l.set c b)=upd (bitM l) (.int .i64 (c:Int)) (if b=true then some (.int .i64 1) else none):=by
 funext x
 by_cases hx:x=.int .i64 (c:Int)
 ·subst hx
  rw [upd_same,bitM_int,Int.toNat_natCast,getD_setB _ _ _ _ hc,if_pos rfl]
  cases b <;> simp
 ·rw [upd_other _ _ hx]
  cases x with
  | int q k =>
    cases q with
    | i64 =>
      rw [bitM_int,bitM_int]
      by_cases h0:0≤k
      ·have hkc:k.toNat≠c:=fun e=>hx (by rw [←e,Int.toNat_of_nonneg h0])
       rw [getD_setB _ _ _ _ hc,if_neg hkc]
      ·rw [if_neg (fun h=>h0 h.1),if_neg (fun h=>h0 h.1)]
    | _=>rfl
  | _=>rfl
theorem BitW_set {w w':World} {tb mb S g:Nat} {l:List Bool} {c:Nat} {b:Bool} (h:BitW w tb mb S g l) (hc:c<l.length) (hf:Fr [mb] w w') {es:Array MapEntry} {clock:Nat} (hm:mapAt w' mb=some (es,clock))
 (hi:IsM Tryz.prog 3 es clock (upd (bitM l) (.int .i64 (c:Int)) (if b=true then some (.int .i64 1) else none))):BitW w' tb mb S g (l.set c b) :=
 ⟨h.blk.fr hf (by have:=h.ne;simp;exact this),h.size,h.grain,by rw [List.length_set];exact h.len,es,clock,hm,by rw [bitM_set b hc];exact hi⟩
theorem set1_calls (tb mb S g cb:Nat) (l:List Bool) (c:Nat) (w:World) (h:BitW w tb mb S g l) (hc:c<l.length) (B:Blk w cb [.pointer (some ⟨tb,0,none⟩)] 61) :
 Calls Tryz.prog 136 #[.int .i64 (c:Int),.pointer (some ⟨cb,0,none⟩)] w fun e w'=>(∃v,e=.returned v)∧BitW w' tb mb S g (l.set c true)∧Fr [mb] w w':=by
 have cb0:=B.cell
 have ct:=h.blk.cell
 have hle:=gran_le h.size h.grain.1
 have hlen:=h.len
 obtain ⟨es,clock,hm,hi⟩:=h.map
 go_enter Tryz.func136,Tryz.ntmps136
 go_wp2_with (refine wpList_mapUpdate_isM rfl _ _ _ 138 rfl Tryz.underlying138 bKeyInt hi mb rfl _ rfl _ rfl (bKeyI (by omega) (by omega)) hm ?_;intro es' clock' hi')
 have hf:Fr [mb] w (putMap w mb es' clock'):=(Fr.refl _ w).trans (putMap_fr _ _ _ _) (by simp)
 exact bodyPost_end (v:=.tuple #[]) (results_none rfl _ _ _) rfl ⟨⟨_,rfl⟩,BitW_set h hc hf (mapAt_putMap (mapAt_lt hm) _ _) hi',hf⟩
theorem clear1_calls (tb mb S g cb:Nat) (l:List Bool) (c:Nat) (w:World) (h:BitW w tb mb S g l) (hc:c<l.length) (B:Blk w cb [.pointer (some ⟨tb,0,none⟩)] 61) :
 Calls Tryz.prog 187 #[.int .i64 (c:Int),.pointer (some ⟨cb,0,none⟩)] w fun e w'=>(∃v,e=.returned v)∧BitW w' tb mb S g (l.set c false)∧Fr [mb] w w':=by
 have cb0:=B.cell
 have ct:=h.blk.cell
 have hle:=gran_le h.size h.grain.1
 have hlen:=h.len
 obtain ⟨es,clock,hm,hi⟩:=h.map
 go_enter Tryz.func187,Tryz.ntmps187
 go_wp2_with (refine wpList_delete_isM rfl _ _ 138 3 rfl Tryz.underlying138 bKeyInt hi mb rfl _ rfl (bKeyI (by omega) (by omega)) hm ?_;intro es' hi')
 have hf:Fr [mb] w (putMap w mb es' clock):=(Fr.refl _ w).trans (putMap_fr _ _ _ _) (by simp)
 exact bodyPost_end (v:=.tuple #[]) (results_none rfl _ _ _) rfl ⟨⟨_,rfl⟩,BitW_set h hc hf (mapAt_putMap (mapAt_lt hm) _ _) hi',hf⟩
def fillB (b:Bool) (l:List Bool) (a k:Nat):List Bool:=(List.range l.length).map fun i=>if a≤i∧i<k then b else l.getD i false
theorem fillB_len (b:Bool) (l:List Bool) (a k:Nat):(fillB b l a k).length=l.length:=by simp [fillB]
theorem fillB_getD (b:Bool) (l:List Bool) (a k i:Nat) (hi:i<l.length):(fillB b l a k).getD i false=if a≤i∧i<k then b else l.getD i false:=by
 unfold fillB
 rw [List.getD_eq_getElem?_getD,List.getElem?_map,List.getElem?_range hi]
 rfl
theorem extB {l l':List Bool} (h:l.length=l'.length) (hi:∀i,i<l.length→l.getD i false=l'.getD i false):l=l':=by
 apply List.ext_getElem h
 intro i h1 h2
 have:=hi i h1
 rwa [List.getD_eq_getElem?_getD,List.getD_eq_getElem?_getD,List.getElem?_eq_getElem h1,List.getElem?_eq_getElem h2] at this
theorem fillB_start (b:Bool) (l:List Bool) (a k:Nat) (h:k≤a):fillB b l a k=l:=extB (fillB_len ..) fun i hi=>by
 rw [fillB_len] at hi
 rw [fillB_getD _ _ _ _ _ hi,if_neg (by omega)]
theorem fillB_step (b:Bool) (l:List Bool) (a k:Nat) (ha:a≤k) (hk:k<l.length):fillB b l a (k+1)=(fillB b l a k).set k b:=extB (by simp [fillB_len]) fun i hi=>by
 rw [fillB_len] at hi
 rw [getD_setB _ _ _ _ (by rw [fillB_len];exact hk),fillB_getD _ _ _ _ _ hi,fillB_getD _ _ _ _ _ hi]
 by_cases h1:i=k
 ·subst h1;rw [if_pos ⟨ha,by omega⟩,if_pos rfl]
 ·rw [if_neg h1]
  by_cases h2:a≤i∧i<k
  ·rw [if_pos h2,if_pos ⟨h2.1,by omega⟩]
  ·rw [if_neg h2,if_neg (by omega)]
def insideB (S:Nat) (f n:Int):Prop:=0≤n∧0≤f∧n≤S∧f≤S - n
theorem each_set (tb mb S g cb:Nat) (l:List Bool) (f n:Int) (a:Nat) (e:Int) (w:World) (h:BitW w tb mb S g l) (B:Blk w cb [.pointer (some ⟨tb,0,none⟩)] 61)
 (hin:insideB S f n) (ha:a≤1000000) (he:e≤l.length) :
 Calls Tryz.prog 135 #[.pointer (some ⟨tb,0,none⟩),.int .i64 f,.int .i64 n,.int .i64 (a:Int),.int .i64 e,.func (.func 136) #[] #[.pointer (some ⟨cb,0,none⟩)]] w
  fun r w'=>r=.returned (.int .i64 0)∧BitW w' tb mb S g (fillB true l a e.toNat)∧Fr [mb] w w':=by
 have ct:=h.blk.cell
 have hS:=h.size
 have hle:=gran_le h.size h.grain.1
 have hlen:=h.len
 obtain ⟨h1,h2,h3,h4⟩:=hin
 have n1:¬n<0:=by omega
 have n2:¬f<0:=by omega
 have n3:¬(S:Int)<n:=by omega
 have n4:¬(S:Int) - n<f:=by omega
 have hcb:cb≠mb:=by
  rintro rfl
  obtain ⟨es,c,hm,_⟩:=h.map
  have:=(mapAt_some.1 hm).symm.trans B
  cases this
 go_enter Tryz.func135,Tryz.ntmps135
 go_wp2_with fail
 go_loopw [13] (fun i wr=>∃k:Nat,a≤k∧(k≤e.toNat∨k=a)∧i=.int .i64 k∧BitW wr tb mb S g (fillB true l a k)∧Fr [mb] w wr) (fun i _=>e.toNat - (intOf i).toNat)
 case atStart=>exact ⟨a,Nat.le_refl _,.inr rfl,rfl,by rw [fillB_start _ _ _ _ (Nat.le_refl _)];exact h,Fr.refl _ _⟩
 case round =>
  obtain ⟨k,hak,hke,rfl,hB,hF⟩:=hrel
  by_cases hlt:(k:Int)<e
  ·have hkl:k<l.length:=by omega
   have Hst:=hidIt (fillB_step true l a k hak hkl)
   have B':=B.fr hF (by simp;exact hcb)
   have hkl2:k<(fillB true l a k).length:=by rw [fillB_len];exact hkl
   generalize fillB true l a k=l' at *
   go_wp2_with fail
   refine (set1_calls tb mb S g cb l' k _ hB hkl2 B').mono ?_
   rintro r w2 ⟨⟨v,rfl⟩,hB2,hf⟩
   go_wp2
   go_roundw
   case rel=>exact ⟨k+1,by omega,by omega,by go_num,by rw [Hst.out];exact hB2,hF.trans' hf⟩
   case measure=>simp [intOf];omega
  ·have Hk:Hid (fillB true l a e.toNat=fillB true l a k):=hidIt (by
    rcases hke with hke | rfl
    ·have:k=e.toNat:=by omega
     rw [this]
    ·rw [fillB_start _ _ _ _ (Nat.le_refl _),fillB_start _ _ _ _ (by omega)])
   go_wp2
   go_ret
   exact ⟨rfl,by rw [Hk.out];exact hB,hF⟩
theorem each_clear (tb mb S g cb:Nat) (l:List Bool) (f n:Int) (a:Nat) (e:Int) (w:World) (h:BitW w tb mb S g l) (B:Blk w cb [.pointer (some ⟨tb,0,none⟩)] 61)
 (hin:insideB S f n) (ha:a≤1000000) (he:e≤l.length) :
 Calls Tryz.prog 135 #[.pointer (some ⟨tb,0,none⟩),.int .i64 f,.int .i64 n,.int .i64 (a:Int),.int .i64 e,.func (.func 187) #[] #[.pointer (some ⟨cb,0,none⟩)]] w
  fun r w'=>r=.returned (.int .i64 0)∧BitW w' tb mb S g (fillB false l a e.toNat)∧Fr [mb] w w':=by
 have ct:=h.blk.cell
 have hS:=h.size
 have hle:=gran_le h.size h.grain.1
 have hlen:=h.len
 obtain ⟨h1,h2,h3,h4⟩:=hin
 have n1:¬n<0:=by omega
 have n2:¬f<0:=by omega
 have n3:¬(S:Int)<n:=by omega
 have n4:¬(S:Int) - n<f:=by omega
 have hcb:cb≠mb:=by
  rintro rfl
  obtain ⟨es,c,hm,_⟩:=h.map
  have:=(mapAt_some.1 hm).symm.trans B
  cases this
 go_enter Tryz.func135,Tryz.ntmps135
 go_wp2_with fail
 go_loopw [13] (fun i wr=>∃k:Nat,a≤k∧(k≤e.toNat∨k=a)∧i=.int .i64 k∧BitW wr tb mb S g (fillB false l a k)∧Fr [mb] w wr) (fun i _=>e.toNat - (intOf i).toNat)
 case atStart=>exact ⟨a,Nat.le_refl _,.inr rfl,rfl,by rw [fillB_start _ _ _ _ (Nat.le_refl _)];exact h,Fr.refl _ _⟩
 case round =>
  obtain ⟨k,hak,hke,rfl,hB,hF⟩:=hrel
  by_cases hlt:(k:Int)<e
  ·have hkl:k<l.length:=by omega
   have Hst:=hidIt (fillB_step false l a k hak hkl)
   have B':=B.fr hF (by simp;exact hcb)
   have hkl2:k<(fillB false l a k).length:=by rw [fillB_len];exact hkl
   generalize fillB false l a k=l' at *
   go_wp2_with fail
   refine (clear1_calls tb mb S g cb l' k _ hB hkl2 B').mono ?_
   rintro r w2 ⟨⟨v,rfl⟩,hB2,hf⟩
   go_wp2
   go_roundw
   case rel=>exact ⟨k+1,by omega,by omega,by go_num,by rw [Hst.out];exact hB2,hF.trans' hf⟩
   case measure=>simp [intOf];omega
  ·have Hk:Hid (fillB false l a e.toNat=fillB false l a k):=hidIt (by
    rcases hke with hke | rfl
    ·have:k=e.toNat:=by omega
     rw [this]
    ·rw [fillB_start _ _ _ _ (Nat.le_refl _),fillB_start _ _ _ _ (by omega)])
   go_wp2
   go_ret
   exact ⟨rfl,by rw [Hk.out];exact hB,hF⟩
theorem each_no (tb mb S g:Nat) (l:List Bool) (f n a e:Int) (v:Value) (w:World) (h:BitW w tb mb S g l) (fw:-9223372036854775808≤n∧n≤9223372036854775807) (hin:¬insideB S f n) :
 Calls Tryz.prog 135 #[.pointer (some ⟨tb,0,none⟩),.int .i64 f,.int .i64 n,.int .i64 a,.int .i64 e,v] w
  fun r w'=>r=.returned (.int .i64 1)∧w=w':=by
 have ct:=h.blk.cell
 have hS:=h.size
 by_cases h1:n<0
 ·go_enter Tryz.func135,Tryz.ntmps135
  go_wp2
  go_ret
  exact ⟨rfl,rfl⟩
 ·by_cases h2:f<0
  ·go_enter Tryz.func135,Tryz.ntmps135
   go_wp2
   go_ret
   exact ⟨rfl,rfl⟩
  ·by_cases h3:(S:Int)<n
   ·go_enter Tryz.func135,Tryz.ntmps135
    go_wp2
    go_ret
    exact ⟨rfl,rfl⟩
   ·have h4:(S:Int) - n<f:=by
     unfold insideB at hin
     omega
    go_enter Tryz.func135,Tryz.ntmps135
    go_wp2
    go_ret
    exact ⟨rfl,rfl⟩
theorem getD_range (l:List Bool) (p:Nat→Bool) {i:Nat} (hi:i<l.length):((List.range l.length).map p).getD i false=p i:=by
 rw [List.getD_eq_getElem?_getD,List.getElem?_map,List.getElem?_range hi];rfl
theorem fill_set {S g:Nat} {l:List Bool} {f n:Nat} (hg:0<g) (hl:l.length=gran S g) (hin:f+n≤S):fillB true l (f / g) (if n=0 then 0 else (f+n+g - 1) / g)=bSet S g l f n:=extB (by simp [fillB_len,bSet]) fun i hi=>by
 rw [fillB_len] at hi
 have hk:i*g<S:=by rw [hl] at hi;exact (ceil_lt hg).1 hi
 have h1:=one_iff (k:=i) (f:=f) (n:=n) hg hk hin
 rw [fillB_getD _ _ _ _ _ hi]
 unfold bSet
 rw [getD_range _ _ hi]
 by_cases h0:n=0
 ·rw [if_pos h0,if_neg (by omega)]
  have:oneB S g f n i=false:=by
   cases hb:oneB S g f n i with
   | false=>rfl
   | true=>exact absurd h0 (h1.1 hb).1
  rw [this];rfl
 ·rw [if_neg h0]
  by_cases hc:f / g≤i∧i<(f+n+g - 1) / g
  ·rw [if_pos hc,h1.2 ⟨h0,hc⟩];rfl
  ·rw [if_neg hc]
   have:oneB S g f n i=false:=by
    cases hb:oneB S g f n i with
    | false=>rfl
    | true=>exact absurd (h1.1 hb).2 hc
   rw [this];rfl
theorem fill_clear {S g:Nat} {l:List Bool} {f n:Nat} (hg:0<g) (hl:l.length=gran S g) (hin:f+n≤S):fillB false l ((f+g - 1) / g) (if f+n=S then gran S g else (f+n) / g)=bClear S g l f n:=extB (by simp [fillB_len,bClear]) fun i hi=>by
 rw [fillB_len] at hi
 have hk:i*g<S:=by rw [hl] at hi;exact (ceil_lt hg).1 hi
 have h1:=all_iff (k:=i) (f:=f) (n:=n) hg hk hin
 rw [fillB_getD _ _ _ _ _ hi]
 unfold bClear
 rw [getD_range _ _ hi]
 by_cases hc:(f+g - 1) / g≤i∧i<(if f+n=S then gran S g else (f+n) / g)
 ·rw [if_pos hc,h1.2 hc];rfl
 ·rw [if_neg hc]
  have:allB S g f n i=false:=by
   cases hb:allB S g f n i with
   | false=>rfl
   | true=>exact absurd (h1.1 hb) hc
  rw [this];rfl
theorem bSet_yes (tb mb S g:Nat) (l:List Bool) (f n:Nat) (w:World) (h:BitW w tb mb S g l) (hin:f+n≤S) :
 Calls Tryz.prog 78 #[.pointer (some ⟨tb,0,none⟩),.int .i64 (f:Int),.int .i64 (n:Int)] w
  fun r w'=>r=.returned (.int .i64 0)∧BitW w' tb mb S g (bSet S g l f n)∧Fr [mb] w w':=by
 have ct:=h.blk.cell
 have hS:=h.size
 have hg:=h.grain
 have hle:=gran_le h.size hg.1
 have hlen:=h.len
 have hins:insideB S f n:=⟨by omega,by omega,by omega,by omega⟩
 have hg0:(0:Int)<g:=by omega
 have hgn:¬(g:Int)=0:=by omega
 have hgz:¬g=0:=by omega
 have hq1:Int.tdiv ((f:Int)+n+g - 1) g=(((f+n+g - 1) / g:Nat):Int):=by
  have e:(f:Int)+n+g - 1=((f+n+g - 1:Nat):Int):=by omega
  rw [e,Int.ofNat_tdiv]
 have hq2:Int.tdiv (f:Int) g=((f / g:Nat):Int):=Int.ofNat_tdiv f g
 have Hfill:=hidIt (fill_set (f:=f) (n:=n) hg.1 hlen hin)
 have hd1:=Nat.div_le_self (f+n+g - 1) g
 have hd2:=Nat.div_le_self f g
 have hend:n≠0→(f+n+g - 1) / g≤l.length:=fun h0=>by
  rw [hlen]
  exact Nat.div_le_div_right (by omega)
 generalize (f+n+g - 1) / g=E at *
 generalize f / g=A at *
 have hwE:IntKind.i64.wrap (E:Int)=(E:Int):=IntWalk.i64_in _ (by omega)
 have hwA:IntKind.i64.wrap (A:Int)=(A:Int):=IntWalk.i64_in _ (by omega)
 have B3:=(Blk.new w [.pointer (some ⟨tb,0,none⟩)] 61)
 have c3:=B3.cell
 have hlt:=h.lt.1
 go_enter Tryz.func78,Tryz.ntmps78
 go_wp2_with fail
 go_quiet (fail)
 by_cases h0:n=0
 ·subst h0
  go_wp2_with fail
  refine wp_region_still_tail 11 bFollows (by as_aux_lemma=>kernel_rfl) ?_
  simp only [List.take_succ_cons,List.take_zero,List.drop_succ_cons,List.drop_zero]
  change wpStill _ _ (World.drew _) _ _ _
  iterate 11 still_step
  refine wpStill_nil ?_
  change wpList _ _ _ _ _ (World.drew _)
  go_wp2_with fail
  refine (each_set tb mb S g w.heap.size l f 0 A 0 _ (h.fr0 (((Fr.refl _ _).alloc _).drewN _)) (B3.drewN _) (by simpa using hins) (by omega) (by simp)).mono ?_
  rintro r w2 ⟨rfl,hB,hf⟩
  go_wp2
  go_ret
  exact ⟨rfl,by rw [←Hfill.out];simpa using hB,(((Fr.refl [mb] w).alloc _).drewN _).trans' hf⟩
 ·have h0':¬(n:Int)=0:=by omega
  go_wp2_with fail
  refine wp_region_still_tail 11 bFollows (by as_aux_lemma=>kernel_rfl) ?_
  simp only [List.take_succ_cons,List.take_zero,List.drop_succ_cons,List.drop_zero]
  change wpStill _ _ (World.drew _) _ _ _
  iterate 11 still_step
  refine wpStill_nil ?_
  change wpList _ _ _ _ _ (World.drew _)
  go_wp2_with fail
  refine (each_set tb mb S g w.heap.size l f n A E _ (h.fr0 (((Fr.refl _ _).alloc _).drewN _)) (B3.drewN _) hins (by omega) (by have:=hend h0;omega)).mono ?_
  rintro r w2 ⟨rfl,hB,hf⟩
  go_wp2
  go_ret
  exact ⟨rfl,by rw [←Hfill.out];simpa [h0] using hB,(((Fr.refl [mb] w).alloc _).drewN _).trans' hf⟩
end Go.Proofs.YtffnihooekbcnaaGreat
