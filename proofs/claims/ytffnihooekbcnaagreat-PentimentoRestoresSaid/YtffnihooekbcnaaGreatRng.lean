/-
  A range over a map, with rounds that write elsewhere, or delete the key that has come. No program in sight.
-/
import Derived.Test.YtffnihooekbcnaaGreatG01
import Derived.Maps.RangeWalk
set_option maxRecDepth 100000
set_option maxHeartbeats 6400000
namespace Go.Proofs.YtffnihooekbcnaaGreat
open Go.RowKit Go.Maps
open Go.ChangeMaps (setBlock)
def RngM (P:Program) (K:TypeId) (w:World) (mb rb:Nat) (m:Value→Option Value) (L:Value→Prop) (cnt:Nat):Prop :=
 ∃es clock since seen c0,mapAt w mb=some (es,clock)∧IsM P K es clock m∧w.heap[rb]? = some (.mapIter (some mb) since seen c0)∧(∀x∈es.toList,x.born<since)∧(leftOf es seen).size=cnt ∧
  (∀k,L k ↔ ∃e∈es.toList,e.key=k∧seen.contains e.born=false)∧since≤c0∧since≤clock
theorem setBlock_fr (w:World) (b:Nat) (o:Obj):Fr [b] w (setBlock w b o) :=
 ⟨rfl,rfl,rfl,by simp [setBlock],fun k _ hn=>by simp [setBlock,Array.getElem?_setIfInBounds];intro e;exact absurd (by simp [e]) hn⟩
section
variable {P:Program} {K:TypeId} {w:World} {mb rb cnt:Nat} {m:Value→Option Value} {L:Value→Prop}
theorem RngM.lt (h:RngM P K w mb rb m L cnt):mb<w.heap.size∧rb<w.heap.size:=by
 obtain ⟨es,clock,since,seen,c0,h1,_,h3,_⟩:=h
 exact ⟨mapAt_lt h1,(Array.getElem?_eq_some_iff.1 h3).1⟩
theorem RngM.ne (h:RngM P K w mb rb m L cnt):rb≠mb:=by
 obtain ⟨es,clock,since,seen,c0,h1,_,h3,_⟩:=h
 rintro rfl
 rw [mapAt_some.1 h1] at h3
 cases h3
theorem RngM.left (h:RngM P K w mb rb m L cnt):w.rangeLeft mb rb=cnt:=by
 obtain ⟨es,clock,since,seen,c0,h1,_,h3,_,h5,_⟩:=h
 simp only [World.rangeLeft,mapAt_some.1 h1,h3]
 exact h5
theorem RngM.fr {M:List Nat} {w':World} (h:RngM P K w mb rb m L cnt) (hf:Fr M w w') (h1:mb ∉ M) (h2:rb ∉ M):RngM P K w' mb rb m L cnt:=by
 obtain ⟨es,clock,since,seen,c0,a1,a2,a3,rest⟩:=h
 exact ⟨es,clock,since,seen,c0,mapAt_fr a1 hf h1,a2,(hf.block rb (Array.getElem?_eq_some_iff.1 a3).1 h2).trans a3,rest⟩
theorem RngM.fr0 {w':World} (h:RngM P K w mb rb m L cnt) (hf:Fr [] w w'):RngM P K w' mb rb m L cnt:=h.fr hf (by simp) (by simp)
theorem wpList_range_isM {ops:Array Oper} {rest:List Oper} {o:Oper} {a:Act} {Q:Exit→Act→World→Prop} (hg:o.guard=none) (x:Operand) (T:TypeId) (ho:o.op=.range T x) {E:TypeId} (ht:P.underlying T=some (.map K E))
 {es:Array MapEntry} {clock:Nat} (hi:IsM P K es clock m) (mb:Nat) (hx:a.eval x=.map (some mb)) (hm:mapAt w mb=some (es,clock))
 (hK:RngM P K (w.alloc (.mapIter (some mb) clock #[] clock)) mb w.heap.size m (fun k=>(m k).isSome=true) es.size→wpList P ops Q rest (a.put o.dst (.pointer (some ⟨w.heap.size,0,none⟩))) (w.alloc (.mapIter (some mb) clock #[] clock))):wpList P ops Q (o :: rest) a w:=by
 refine wpList_run hg (w':=w.alloc (.mapIter (some mb) clock #[] clock)) (v:=.pointer (some ⟨w.heap.size,0,none⟩)) ?_ ?_
 ·simp only [execOp,ho,hx,Sem.run_bind,run_range_map w T K E mb es clock ht (mapAt_some.1 hm),Result.andThen_ok,Sem.run_pure]
 ·refine hK ⟨es,clock,clock,#[],clock,?_,hi,heap_alloc_new _ _,hi.born,by simp [leftOf],fun k=>?_,Nat.le_refl _,Nat.le_refl _⟩
  ·rw [mapAt_alloc _ (mapAt_lt hm)];exact hm
  ·constructor
   ·intro h
    obtain ⟨v,hv⟩:=Option.isSome_iff_exists.1 h
    obtain ⟨e,he,h1,_⟩:=(hi.get k v).1 hv
    exact ⟨e,he,h1,by simp⟩
   ·rintro ⟨e,he,rfl,_⟩
    rw [(hi.get e.key e.val).2 ⟨e,he,rfl,rfl⟩];rfl
theorem apart_key {es:Array MapEntry} (h:es.toList.Pairwise (fun a b=>a.key≠b.key)) {x y:MapEntry} (hx:x∈es.toList) (hy:y∈es.toList) (hk:x.key=y.key):x=y:=entry_eq_of_key h hx hy hk
theorem wpList_next_isM {ops:Array Oper} {rest:List Oper} {o:Oper} {a:Act} {Q:Exit→Act→World→Prop} (hg:o.guard=none) (it:Operand) (hop:o.op=Op.next it false) (mb rb:Nat)
 (hit:a.eval it=.pointer (some ⟨rb,0,none⟩)) (h:RngM P K w mb rb m L cnt)
 (hDone:(∀k,¬L k)→wpList P ops Q rest (a.put o.dst (.tuple #[.bool false])) w)
 (hMore:∀(k v:Value) (w':World) (cnt':Nat),L k→m k=some v→RngM P K w' mb rb m (fun x=>L x∧x≠k) cnt'→cnt'<cnt→Fr [rb] w w'→w'.heap.size=w.heap.size →
   (Instr.entry (.pointer (some ⟨rb,0,none⟩))).run P w'=.ok (.tuple #[k,v]) w'→wpList P ops Q rest (a.put o.dst (.tuple #[.bool true,k,v])) w'):wpList P ops Q (o :: rest) a w:=by
 have hne:=h.ne
 obtain ⟨es,clock,since,seen,c0,a1,a2,a3,hold,rfl,a6,hsc,hsk⟩:=h
 have hb:=mapAt_some.1 a1
 refine wpList_plain hg fun K' hK'=>?_
 unfold Oper.wp
 rcases run_next_at (P:=P) w o.type rb mb since c0 seen es clock a3 hb hold hsc with ⟨h0,hrun⟩ | ⟨e,he,w1,hal,hrun⟩
 ·simp [execOp,hop,hit,hrun,Result.andThen]
  refine hK' _ _ (hDone fun k hk=>?_)
  obtain ⟨x,hx,_,hs⟩:=(a6 k).1 hk
  have:=all_seen es seen h0 x hx
  rw [hs] at this
  cases this
 ·simp [execOp,hop,hit,hrun,Result.andThen]
  obtain ⟨hem,hes⟩:=mem_left he
  have hf1:Fr [rb] w (setBlock w1 rb (.mapIter (some mb) since (seen.push e.born) clock)):=by
   rcases hal with rfl | rfl
   ·exact setBlock_fr _ _ _
   ·exact ((Fr.refl [rb] w).drew).trans' (setBlock_fr _ _ _)
  have hsz:(setBlock w1 rb (.mapIter (some mb) since (seen.push e.born) clock)).heap.size=w.heap.size:=by
   rcases hal with rfl | rfl <;> simp [setBlock]
  have hrb:rb<w.heap.size:=(Array.getElem?_eq_some_iff.1 a3).1
  have hr':(setBlock w1 rb (.mapIter (some mb) since (seen.push e.born) clock)).heap[rb]? = some (.mapIter (some mb) since (seen.push e.born) clock):=by
   rcases hal with rfl | rfl <;> simp [setBlock,hrb]
  have hm':=mapAt_fr a1 hf1 (by simp;exact fun e=>hne e.symm)
  refine hK' _ _ (hMore e.key e.val _ _ ((a6 e.key).2 ⟨e,hem,rfl,hes⟩) ((a2.get _ _).2 ⟨e,hem,rfl,rfl⟩) ⟨es,clock,since,seen.push e.born,clock,hm',a2,hr',hold,rfl,fun k=>?_,hsk,hsk⟩ (left_shrinks es seen e he) hf1 hsz ?_)
  ·show (L k∧k≠e.key) ↔ _
   rw [a6]
   constructor
   ·rintro ⟨⟨x,hx,rfl,hs⟩,hk⟩
    refine ⟨x,hx,rfl,?_⟩
    rw [contains_push,hs]
    have:¬x.born=e.born:=fun hb'=>hk (by
     have hinj:=born_inj (List.pairwise_map.2 a2.stamps) hx hem hb'
     rw [hinj])
    simp [this]
   ·rintro ⟨x,hx,rfl,hs⟩
    rw [contains_push] at hs
    simp only [Bool.or_eq_false_iff] at hs
    refine ⟨⟨x,hx,rfl,hs.1⟩,fun hk=>?_⟩
    have:=apart_key a2.apart hx hem hk
    subst this
    simp at hs
  ·exact run_entry_at _ rb mb since seen es clock e hr' (mapAt_some.1 hm') hem (List.pairwise_map.2 a2.stamps)
end
end Go.Proofs.YtffnihooekbcnaaGreat
