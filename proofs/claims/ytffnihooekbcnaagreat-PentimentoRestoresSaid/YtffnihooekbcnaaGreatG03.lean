/-
  Package bits: Resize.
-/
import Derived.Test.YtffnihooekbcnaaGreatG02
import Derived.Test.YtffnihooekbcnaaGreatRng
import Derived.Laws.Strings3
import Derived.Laws.DeepStrings4
import Derived.StringKeys
set_option maxRecDepth 100000
set_option maxHeartbeats 6400000
namespace Go.Proofs.YtffnihooekbcnaaGreat
open Go.RowKit Go.Maps
attribute [local go_sem] mapAt_alloc mapAt_setCell mapAt_drew mapAt_drewN
def cutB (l:List Bool) (G:Nat):List Bool:=(List.range G).map fun k=>l.getD k false
def rzB (S g:Nat) (l:List Bool) (n:Nat):List Bool:=if S<n then bSet n g (cutB l (gran n g)) S (n - S) else cutB l (gran n g)
instance (S:Nat) (f n:Int):Decidable (insideB S f n):=inferInstanceAs (Decidable (_∧_∧_∧_))
def doS (g:Nat) (st:Nat × List Bool) (o:Int × Int × Int):(Nat × List Bool) × Int :=
 if o.1=0 then (if insideB st.1 o.2.1 o.2.2 then ((st.1,bSet st.1 g st.2 o.2.1.toNat o.2.2.toNat),0) else (st,1))
 else if o.1=1 then (if insideB st.1 o.2.1 o.2.2 then ((st.1,bClear st.1 g st.2 o.2.1.toNat o.2.2.toNat),0) else (st,1))
 else if o.1=2 then (if okSec o.2.2=true then ((o.2.2.toNat,rzB st.1 g st.2 o.2.2.toNat),0) else (st,1))
 else (st,0)
theorem bSet_calls (tb mb S g:Nat) (l:List Bool) (f n:Int) (w:World) (h:BitW w tb mb S g l) (fw:-9223372036854775808≤n∧n≤9223372036854775807) :
 Calls Tryz.prog 78 #[.pointer (some ⟨tb,0,none⟩),.int .i64 f,.int .i64 n] w
  fun r w'=>r=.returned (.int .i64 (doS g (S,l) (0,f,n)).2)∧BitW w' tb mb (doS g (S,l) (0,f,n)).1.1 g (doS g (S,l) (0,f,n)).1.2∧Fr [mb] w w':=by
 by_cases hin:insideB S f n
 ·obtain ⟨f,rfl⟩:=Int.eq_ofNat_of_zero_le hin.2.1
  obtain ⟨n,rfl⟩:=Int.eq_ofNat_of_zero_le hin.1
  have e:doS g (S,l) (0,(f:Int),(n:Int))=((S,bSet S g l f n),0):=by simp [doS,hin]
  rw [e]
  exact bSet_yes tb mb S g l f n w h (by have h1:=hin.2.2.1;have h2:=hin.2.2.2;omega)
 ·have e:doS g (S,l) (0,f,n)=((S,l),1):=by simp [doS,hin]
  rw [e]
  refine (bSet_no tb mb S g l f n w h fw hin).mono ?_
  rintro r w1 ⟨rfl,hf⟩
  exact ⟨rfl,h.fr0 hf,hf.weak⟩
theorem Clear_calls (tb mb S g:Nat) (l:List Bool) (f n:Int) (w:World) (h:BitW w tb mb S g l) (fw:-9223372036854775808≤n∧n≤9223372036854775807) :
 Calls Tryz.prog 154 #[.pointer (some ⟨tb,0,none⟩),.int .i64 f,.int .i64 n] w
  fun r w'=>r=.returned (.int .i64 (doS g (S,l) (1,f,n)).2)∧BitW w' tb mb (doS g (S,l) (1,f,n)).1.1 g (doS g (S,l) (1,f,n)).1.2∧Fr [mb] w w':=by
 by_cases hin:insideB S f n
 ·obtain ⟨f,rfl⟩:=Int.eq_ofNat_of_zero_le hin.2.1
  obtain ⟨n,rfl⟩:=Int.eq_ofNat_of_zero_le hin.1
  have e:doS g (S,l) (1,(f:Int),(n:Int))=((S,bClear S g l f n),0):=by simp [doS,hin]
  rw [e]
  exact Clear_yes tb mb S g l f n w h (by have h1:=hin.2.2.1;have h2:=hin.2.2.2;omega)
 ·have e:doS g (S,l) (1,f,n)=((S,l),1):=by simp [doS,hin]
  rw [e]
  refine (Clear_no tb mb S g l f n w h fw hin).mono ?_
  rintro r w1 ⟨rfl,hf⟩
  exact ⟨rfl,h.fr0 hf,hf.weak⟩
end Go.Proofs.YtffnihooekbcnaaGreat
namespace Go.Proofs.YtffnihooekbcnaaGreat
def okSign (x:UInt8):Bool:=(decide (97≤x.toNat) && decide (x.toNat≤122)) || (decide (48≤x.toNat) && decide (x.toNat≤57)) || decide (x.toNat=46) || decide (x.toNat=45)
def okName (s:List UInt8):Bool:=s.all okSign && decide (1≤s.length) && decide (s.length≤15)
theorem okName_len {s:List UInt8} (h:okName s=true):s.length≤15:=by
 unfold okName at h
 simp at h
 exact h.2
end Go.Proofs.YtffnihooekbcnaaGreat
namespace Go.Proofs.YtffnihooekbcnaaGreat
open Go.RowKit
theorem len_str (l:List UInt8) (ty:TypeId) (X:World):(Builtin.len_ #[9] ty #[strL l]).run Tryz.prog X=.ok (goInt l.length) X:=by
 unfold strL
 rw [run_len_string (P:=Tryz.prog) X _ _ _ Tryz.underlying9]
 rfl
theorem size_str (l:List UInt8):(ByteArray.mk l.toArray).size=l.length:=by simp [ByteArray.size]
theorem eql_str (T:TypeId) (a b:List UInt8):binOp .eql T (strL a) (strL b)=pure (.bool (decide (a=b))):=by
 unfold strL
 rw [binOp_string_eql,ByteArray.toList_mk,ByteArray.toList_mk]
 congr 2
 by_cases h:a=b <;> simp [h]
theorem neq_str (T:TypeId) (a b:List UInt8):binOp .neq T (strL a) (strL b)=pure (.bool (!decide (a=b))):=by
 unfold strL
 rw [binOp_string_neq,ByteArray.toList_mk,ByteArray.toList_mk]
 congr 3
 by_cases h:a=b <;> simp [h]
theorem store_str {P:Program} (l:List UInt8) (a:Addr) (m:Mode) (w:World):(store a (strL l) m).run P w=stored P w a (strL l) m:=run_store P w a _ m rfl
theorem cells_str (l:List UInt8):(strL l).cells=#[strL l]:=rfl
theorem guard_str (op:BinOp) (x y:Operand) (a b:List UInt8) (w:World):(eqGuard op 9 x y (strL a) (strL b)).run Tryz.prog w=.ok () w:=by
 unfold strL eqGuard
 simp [go_sem]
end Go.Proofs.YtffnihooekbcnaaGreat
namespace Go.Proofs.YtffnihooekbcnaaGreat
open Go.RowKit Go.Maps
structure Ent where
 name:List UInt8
 on:Bool
 use:Bool
 S:Nat
 g:Nat
 l:List Bool
structure Cel where
 x:Ent
 eb:Nat
 tb:Nat
 mb:Nat
def findE (E:List Ent) (s:List UInt8):Option Ent:=E.find? fun x=>decide (x.name=s)
def findC (L:List Cel) (s:List UInt8):Option Cel:=L.find? fun c=>decide (c.x.name=s)
theorem findC_E (L:List Cel) (s:List UInt8):findE (L.map (·.x)) s=(findC L s).map (·.x):=by
 unfold findE findC
 rw [List.find?_map]
 rfl
theorem findC_mem {L:List Cel} {s:List UInt8} {c:Cel} (h:findC L s=some c):c∈L∧c.x.name=s:=⟨List.mem_of_find?_eq_some h,by simpa using List.find?_some h⟩
theorem findC_none {L:List Cel} {s:List UInt8}:findC L s=none ↔ ∀c∈L,c.x.name≠s:=by
 unfold findC
 rw [List.find?_eq_none]
 simp
def Rising (L:List Cel):Prop:=L.Pairwise fun a b=>a.x.name<b.x.name
theorem Rising.inj {L:List Cel} (h:Rising L):∀{a b:Cel},a∈L→b∈L→a.x.name=b.x.name→a=b:=by
 unfold Rising at h
 induction h with
 | nil=>intro a b ha;cases ha
 | cons h1 _ ih =>
   intro a b ha hb he
   rcases List.mem_cons.1 ha with rfl | ha' <;> rcases List.mem_cons.1 hb with rfl | hb'
   ·rfl
   ·have:=h1 _ hb';rw [he] at this;exact absurd this (List.lt_irrefl _)
   ·have:=h1 _ ha';rw [he] at this;exact absurd this (List.lt_irrefl _)
   ·exact ih ha' hb' he
theorem find_rising {L:List Cel} (h:Rising L) {c:Cel} (hc:c∈L):findC L c.x.name=some c:=by
 cases hf:findC L c.x.name with
 | none=>exact absurd rfl (findC_none.1 hf c hc)
 | some d =>
   obtain ⟨h1,h2⟩:=findC_mem hf
   rw [h.inj h1 hc h2]
def insE (e:Ent):List Ent→List Ent
 | []=>[e]
 | d :: l=>if e.name<d.name then e :: d :: l else d :: insE e l
def insC (c:Cel):List Cel→List Cel
 | []=>[c]
 | d :: l=>if c.x.name<d.x.name then c :: d :: l else d :: insC c l
theorem insC_E (c:Cel):∀L:List Cel,(insC c L).map (·.x)=insE c.x (L.map (·.x))
 | []=>rfl
 | d :: l=>by
   simp only [insC,insE,List.map_cons]
   split
   ·rfl
   ·rw [List.map_cons,insC_E c l]
theorem insC_perm (c:Cel):∀L:List Cel,(insC c L).Perm (c :: L)
 | []=>List.Perm.refl _
 | d :: l=>by
   simp only [insC]
   split
   ·exact List.Perm.refl _
   ·exact ((insC_perm c l).cons d).trans (List.Perm.swap ..)
theorem mem_insC {c d:Cel} {L:List Cel}:d∈insC c L ↔ d=c∨d∈L:=by rw [(insC_perm c L).mem_iff,List.mem_cons]
theorem insC_len (c:Cel) (L:List Cel):(insC c L).length=L.length+1:=(insC_perm c L).length_eq
theorem not_lt_lt {a b:List UInt8} (h:¬a<b) (hne:a≠b):b<a:=by
 rcases List.le_iff_lt_or_eq.1 (List.not_lt.1 h) with h | h
 ·exact h
 ·exact absurd h.symm hne
theorem insC_rising (c:Cel):∀{L:List Cel},Rising L→(∀d∈L,d.x.name≠c.x.name)→Rising (insC c L)
 | [],_,_=>List.pairwise_singleton _ _
 | d :: l,h,hne=>by
   simp only [insC]
   have h':=List.pairwise_cons.1 h
   split
   ·rename_i hlt
    refine List.pairwise_cons.2 ⟨fun x hx=>?_,h⟩
    rcases List.mem_cons.1 hx with rfl | hx
    ·exact hlt
    ·exact List.lt_trans hlt (h'.1 x hx)
   ·rename_i hlt
    refine List.pairwise_cons.2 ⟨fun x hx=>?_,insC_rising c h'.2 fun x hx=>hne x (List.mem_cons_of_mem _ hx)⟩
    rcases mem_insC.1 hx with rfl | hx
    ·exact not_lt_lt hlt (hne d List.mem_cons_self).symm
    ·exact h'.1 x hx
theorem find_insC {c:Cel} {L:List Cel} (h:Rising L) (hn:findC L c.x.name=none) (s:List UInt8):findC (insC c L) s=if s=c.x.name then some c else findC L s:=by
 have hr:Rising (insC c L):=insC_rising c h (findC_none.1 hn)
 split
 ·rename_i e
  subst e
  exact find_rising hr (mem_insC.2 (.inl rfl))
 ·rename_i e
  cases hf:findC L s with
  | none =>
    refine findC_none.2 fun d hd=>?_
    rcases mem_insC.1 hd with rfl | hd
    ·exact fun h=>e h.symm
    ·exact findC_none.1 hf d hd
  | some d =>
    obtain ⟨h1,h2⟩:=findC_mem hf
    have:=find_rising hr (mem_insC.2 (.inr h1))
    rwa [h2] at this
def rmC (L:List Cel) (s:List UInt8):List Cel:=L.filter fun d=>decide (d.x.name≠s)
theorem find_rmC {L:List Cel} (h:Rising L) (s t:List UInt8):findC (rmC L s) t=if t=s then none else findC L t:=by
 have hr:Rising (rmC L s):=h.sublist List.filter_sublist
 split
 ·rename_i e
  subst e
  refine findC_none.2 fun c hc=>?_
  have:=List.mem_filter.1 hc
  simpa using this.2
 ·rename_i e
  cases hf:findC L t with
  | none=>exact findC_none.2 fun c hc=>findC_none.1 hf c (List.mem_filter.1 hc).1
  | some d =>
    obtain ⟨h1,h2⟩:=findC_mem hf
    have:=find_rising hr (c:=d) (List.mem_filter.2 ⟨h1,by simp [h2,e]⟩)
    rwa [h2] at this
def Cel.on (c:Cel) (f:Ent→Ent):Cel:={ c with x:=f c.x }
def chE (E:List Ent) (p:List UInt8→Bool) (f:Ent→Ent):List Ent:=E.map fun d=>if p d.name then f d else d
def chC (L:List Cel) (p:List UInt8→Bool) (f:Ent→Ent):List Cel:=L.map fun d=>if p d.x.name then d.on f else d
theorem chC_E (L:List Cel) (p:List UInt8→Bool) (f:Ent→Ent):(chC L p f).map (·.x)=chE (L.map (·.x)) p f:=by
 unfold chC chE
 rw [List.map_map,List.map_map]
 refine List.map_congr_left fun d _=>?_
 simp only [Function.comp]
 split <;> rfl
theorem mem_chC {L:List Cel} {p:List UInt8→Bool} {f:Ent→Ent} {c:Cel}:c∈chC L p f ↔ ∃d∈L,c=if p d.x.name then d.on f else d:=by
 unfold chC
 rw [List.mem_map]
 exact ⟨fun ⟨d,h,e⟩=>⟨d,h,e.symm⟩,fun ⟨d,h,e⟩=>⟨d,h,e.symm⟩⟩
theorem chC_name {p:List UInt8→Bool} {f:Ent→Ent} (hf:∀x,(f x).name=x.name) (d:Cel):(if p d.x.name then d.on f else d).x.name=d.x.name:=by split <;> simp [Cel.on,hf]
theorem chC_eb {p:List UInt8→Bool} {f:Ent→Ent} (d:Cel):(if p d.x.name then d.on f else d).eb=d.eb∧(if p d.x.name then d.on f else d).tb=d.tb∧(if p d.x.name then d.on f else d).mb=d.mb:=by split <;> exact ⟨rfl,rfl,rfl⟩
theorem chC_rising {L:List Cel} (h:Rising L) {p:List UInt8→Bool} {f:Ent→Ent} (hf:∀x,(f x).name=x.name):Rising (chC L p f):=by
 unfold Rising chC
 rw [List.pairwise_map]
 refine List.Pairwise.imp ?_ h
 intro a b hab
 rw [chC_name hf,chC_name hf]
 exact hab
theorem find_chC {L:List Cel} {p:List UInt8→Bool} {f:Ent→Ent} (hf:∀x,(f x).name=x.name) (s:List UInt8):findC (chC L p f) s=(findC L s).map fun d=>if p d.x.name then d.on f else d:=by
 unfold findC chC
 rw [List.find?_map]
 congr 1
 congr 1
 funext d
 simp only [Function.comp]
 rw [chC_name hf]
theorem chC_len (L:List Cel) (p:List UInt8→Bool) (f:Ent→Ent):(chC L p f).length=L.length:=by simp [chC]
def Cel.ptr (c:Cel):Value:=.pointer (some ⟨c.eb,0,none⟩)
def dirM (L:List Cel):Value→Option Value
 | .string s=>(findC L s.data.toList).map Cel.ptr
 | _=>none
theorem dirM_str (L:List Cel) (s:List UInt8):dirM L (strL s)=(findC L s).map Cel.ptr:=rfl
theorem dirM_some {L:List Cel} {k v:Value} (h:dirM L k=some v):∃c∈L,k=strL c.x.name∧v=c.ptr:=by
 cases k with
 | string s =>
   unfold dirM at h
   obtain ⟨c,hc,rfl⟩:=Option.map_eq_some_iff.1 h
   obtain ⟨h1,h2⟩:=findC_mem hc
   exact ⟨c,h1,by rw [h2,str_eq],rfl⟩
 | _=>cases h
theorem dirM_ext {m:Value→Option Value} {L:List Cel} (h1:∀k v,m k=some v→∃s,k=strL s) (h2:∀s,m (strL s)=(findC L s).map Cel.ptr):m=dirM L:=by
 funext k
 cases k with
 | string s=>rw [str_eq,h2,dirM_str]
 | _ =>
   cases h:m _ with
   | none=>rfl
   | some v =>
     obtain ⟨s,hs⟩:=h1 _ _ h
     cases hs
theorem upd_str {m:Value→Option Value} {v:Option Value} (k s:List UInt8):upd m (strL k) v (strL s)=if s=k then v else m (strL s):=by
 split
 ·rename_i h;subst h;exact upd_same ..
 ·rename_i h;exact upd_other _ _ fun e=>h (strL_inj e)
theorem upd_strs {m:Value→Option Value} (h:∀k v,m k=some v→∃s,k=strL s) (t:List UInt8) (u:Option Value):∀k v,upd m (strL t) u k=some v→∃s,k=strL s:=by
 intro k v hk
 by_cases e:k=strL t
 ·exact ⟨t,e⟩
 ·rw [upd_other _ _ e] at hk
  exact h k v hk
theorem dirM_strs (L:List Cel):∀k v,dirM L k=some v→∃s,k=strL s:=fun k v h=>by
 obtain ⟨c,_,h1,_⟩:=dirM_some h
 exact ⟨_,h1⟩
theorem dirM_ins {L:List Cel} {c:Cel} (h:Rising L) (hn:findC L c.x.name=none):upd (dirM L) (strL c.x.name) (some c.ptr)=dirM (insC c L) :=
 dirM_ext (upd_strs (dirM_strs L) _ _) fun s=>by
  rw [upd_str,find_insC h hn,dirM_str]
  split <;> rfl
theorem dirM_rm {L:List Cel} (h:Rising L) (s:List UInt8):upd (dirM L) (strL s) none=dirM (rmC L s) :=
 dirM_ext (upd_strs (dirM_strs L) _ _) fun t=>by
  rw [upd_str,find_rmC h,dirM_str]
  split <;> rfl
theorem dirM_ch {L:List Cel} {p:List UInt8→Bool} {f:Ent→Ent} (hf:∀x,(f x).name=x.name):dirM L=dirM (chC L p f) :=
 dirM_ext (dirM_strs L) fun t=>by
  rw [find_chC hf,dirM_str,Option.map_map]
  congr 1
  funext d
  simp only [Function.comp,Cel.ptr]
  rw [(chC_eb d).1]
def Cel.feet (c:Cel):List Nat:=[c.eb,c.tb,c.mb]
def feet (L:List Cel):List Nat:=L.flatMap Cel.feet
def homes (db mb:Nat) (L:List Cel):List Nat:=db :: mb :: feet L
theorem mem_feet {L:List Cel} {k:Nat}:k∈feet L ↔ ∃c∈L,k∈c.feet:=List.mem_flatMap
structure EntW (w:World) (c:Cel):Prop where
 blk:Blk w c.eb [strL c.x.name,.bool c.x.on,.bool c.x.use,.pointer (some ⟨c.tb,0,none⟩)] 144
 bits:BitW w c.tb c.mb c.x.S c.x.g c.x.l
 pow:pow2 c.x.g=true
theorem EntW.fr {M:List Nat} {w w':World} {c:Cel} (h:EntW w c) (hf:Fr M w w') (hn:∀k∈c.feet,k ∉ M):EntW w' c :=
 ⟨h.blk.fr hf (hn _ (by simp [Cel.feet])),h.bits.fr hf (hn _ (by simp [Cel.feet])) (hn _ (by simp [Cel.feet])),h.pow⟩
theorem EntW.lt {w:World} {c:Cel} (h:EntW w c):∀k∈c.feet,k<w.heap.size:=by
 intro k hk
 simp only [Cel.feet,List.mem_cons,List.not_mem_nil,or_false] at hk
 rcases hk with rfl | rfl | rfl
 ·exact h.blk.lt
 ·exact h.bits.lt.1
 ·exact h.bits.lt.2
structure DirW (w:World) (db mb:Nat) (L:List Cel):Prop where
 blk:Blk w db [.map (some mb)] 127
 map:∃es clock,mapAt w mb=some (es,clock)∧IsM Tryz.prog 9 es clock (dirM L)
 ents:∀c∈L,EntW w c
 rising:Rising L
 few:L.length≤8
 names:∀c∈L,okName c.x.name=true
 apart:(feet L).Nodup
 home:db ∉ feet L∧mb ∉ feet L
section
variable {w w':World} {db mb:Nat} {L:List Cel}
theorem DirW.ne (h:DirW w db mb L):db≠mb:=by
 rintro rfl
 obtain ⟨es,c,hm,_⟩:=h.map
 have:=(mapAt_some.1 hm).symm.trans h.blk
 cases this
theorem DirW.lt (h:DirW w db mb L):∀k∈homes db mb L,k<w.heap.size:=by
 intro k hk
 rcases List.mem_cons.1 hk with rfl | hk
 ·exact h.blk.lt
 ·rcases List.mem_cons.1 hk with rfl | hk
  ·obtain ⟨es,c,hm,_⟩:=h.map
   exact mapAt_lt hm
  ·obtain ⟨c,hc,hk⟩:=mem_feet.1 hk
   exact (h.ents c hc).lt k hk
theorem DirW.fr {M:List Nat} (h:DirW w db mb L) (hf:Fr M w w') (hn:∀k∈homes db mb L,k ∉ M):DirW w' db mb L:=by
 obtain ⟨es,clock,hm,hi⟩:=h.map
 exact ⟨h.blk.fr hf (hn _ (by simp [homes])),⟨es,clock,mapAt_fr hm hf (hn _ (by simp [homes])),hi⟩,fun c hc=>(h.ents c hc).fr hf fun k hk=>hn k (by simp only [homes,List.mem_cons];exact .inr (.inr (mem_feet.2 ⟨c,hc,hk⟩))),h.rising,h.few,h.names,h.apart,h.home⟩
theorem DirW.fr0 (h:DirW w db mb L) (hf:Fr [] w w'):DirW w' db mb L:=h.fr hf fun _ _ h=>by cases h
theorem DirW.one_key (L:List Cel):∀x,x∈L.map (fun c=>strL c.x.name) ↔ (dirM L x).isSome=true:=by
 intro x
 constructor
 ·intro h
  obtain ⟨c,hc,rfl⟩:=List.mem_map.1 h
  rw [dirM_str]
  cases hf:findC L c.x.name with
  | none=>exact absurd rfl (findC_none.1 hf c hc)
  | some d=>rfl
 ·intro h
  obtain ⟨v,hv⟩:=Option.isSome_iff_exists.1 h
  obtain ⟨c,hc,rfl,_⟩:=dirM_some hv
  exact List.mem_map.2 ⟨c,hc,rfl⟩
theorem DirW.size {es:Array MapEntry} {clock:Nat} (h:Rising L) (hi:IsM Tryz.prog 9 es clock (dirM L)):es.size=L.length:=by
 have:=hi.size (ks:=L.map fun c=>strL c.x.name) (List.pairwise_map.2 (h.imp fun {a b} hab e=>by rw [strL_inj e] at hab;exact absurd hab (List.lt_irrefl _))) (DirW.one_key L)
 rw [this,List.length_map]
theorem keyStr {s:List UInt8} (h:s.length≤maxLen):keyOf Tryz.prog 9 (strL s)=some (.string s):=Go.WideMaps.keyOf_string_mk Tryz.underlying9 (by simpa [ByteArray.size] using h)
theorem DirW.change {M:List Nat} (h:DirW w db mb L) {p:List UInt8→Bool} {f:Ent→Ent} (hname:∀x,(f x).name=x.name) (hf:Fr M w w') (hM:∀k∈M,k<w.heap.size→k∈feet L)
 (hE:∀c∈L,EntW w' (if p c.x.name then c.on f else c)):DirW w' db mb (chC L p f):=by
 obtain ⟨es,clock,hm,hi⟩:=h.map
 have hfeet:feet (chC L p f)=feet L:=by
  unfold feet chC
  rw [List.flatMap_map]
  congr 1
  funext d
  simp only [Cel.feet]
  rw [(chC_eb d).1,(chC_eb d).2.1,(chC_eb d).2.2]
 have hlt:=h.lt
 refine ⟨h.blk.fr hf fun hk=>h.home.1 (hM _ hk h.blk.lt),⟨es,clock,mapAt_fr hm hf fun hk=>h.home.2 (hM _ hk (mapAt_lt hm)),by rw [←dirM_ch hname];exact hi⟩,?_,chC_rising h.rising hname,by rw [chC_len];exact h.few,?_,by rw [hfeet];exact h.apart,by rw [hfeet];exact h.home⟩
 ·intro c hc
  obtain ⟨d,hd,rfl⟩:=mem_chC.1 hc
  exact hE d hd
 ·intro c hc
  obtain ⟨d,hd,rfl⟩:=mem_chC.1 hc
  rw [chC_name hname]
  exact h.names d hd
theorem foot_apart:∀{L:List Cel},(feet L).Nodup→∀{c d:Cel},c∈L→d∈L→∀{k:Nat},k∈c.feet→k∈d.feet→c=d
 | [],_,c,_,hc,_,_,_,_=>by cases hc
 | x :: l,hap,c,d,hc,hd,k,h1,h2=>by
   unfold feet at hap
   rw [List.flatMap_cons,List.nodup_append] at hap
   rcases List.mem_cons.1 hc with e | hc <;> rcases List.mem_cons.1 hd with e' | hd
   ·rw [e,e']
   ·exact absurd rfl (hap.2.2 k (e ▸ h1) k (List.mem_flatMap.2 ⟨d,hd,h2⟩))
   ·exact absurd rfl (hap.2.2 k (e' ▸ h2) k (List.mem_flatMap.2 ⟨c,hc,h1⟩))
   ·exact foot_apart hap.2.1 hc hd h1 h2
theorem DirW.foot (h:DirW w db mb L) {c d:Cel} (hc:c∈L) (hd:d∈L) {k:Nat} (h1:k∈c.feet) (h2:k∈d.feet):c=d:=foot_apart h.apart hc hd h1 h2
theorem own_apart:∀{L:List Cel},(feet L).Nodup→∀{c:Cel},c∈L→c.eb≠c.tb∧c.eb≠c.mb∧c.tb≠c.mb
 | [],_,c,hc=>by cases hc
 | x :: l,hap,c,hc=>by
   unfold feet at hap
   rw [List.flatMap_cons,List.nodup_append] at hap
   rcases List.mem_cons.1 hc with e | hc
   ·have:=hap.1
    subst e
    simp [Cel.feet] at this
    omega
   ·exact own_apart hap.2.1 hc
theorem DirW.own (h:DirW w db mb L) {c:Cel} (hc:c∈L):c.eb≠c.tb∧c.eb≠c.mb∧c.tb≠c.mb:=own_apart h.apart hc
theorem DirW.one (h:DirW w db mb L) {c:Cel} (hc:c∈L) {f:Ent→Ent} (hname:∀x,(f x).name=x.name) (hf:Fr c.feet w w') (hE:EntW w' (c.on f)):DirW w' db mb (chC L (fun s=>decide (s=c.x.name)) f):=by
 refine h.change hname hf (fun k hk _=>mem_feet.2 ⟨c,hc,hk⟩) fun d hd=>?_
 by_cases e:d.x.name=c.x.name
 ·have:=h.rising.inj hd hc e
  subst this
  rw [if_pos (by simp)]
  exact hE
 ·rw [if_neg (by simpa using e)]
  exact (h.ents d hd).fr hf fun k hk hk'=>e (by rw [h.foot hd hc hk hk'])
theorem DirW.ins (h:DirW w db mb L) {c:Cel} (hn:findC L c.x.name=none) (h8:L.length<8) (hr:okName c.x.name=true) (hf:Fr [mb] w w') {es:Array MapEntry} {clock:Nat} (hm:mapAt w' mb=some (es,clock))
 (hi:IsM Tryz.prog 9 es clock (upd (dirM L) (strL c.x.name) (some c.ptr))) (hE:EntW w' c) (hnew:∀k∈c.feet,w.heap.size≤k) (hd:c.eb≠c.tb∧c.eb≠c.mb∧c.tb≠c.mb):DirW w' db mb (insC c L):=by
 have hlt:=h.lt
 have hmb:mb ∉ feet L:=h.home.2
 have hfeet:(feet (insC c L)).Perm (c.feet++feet L):=by
  have:=(insC_perm c L).flatMap_right Cel.feet
  simpa [feet] using this
 have hnot:∀k,k∈homes db mb L→k ∉ c.feet:=fun k hk hc=>by have:=hlt k hk;have:=hnew k hc;omega
 refine ⟨h.blk.fr hf (by simp;exact h.ne),⟨es,clock,hm,by rw [←dirM_ins h.rising hn];exact hi⟩,?_,insC_rising c h.rising (findC_none.1 hn),by rw [insC_len];omega,?_,?_,?_,?_⟩
 ·intro d hd
  rcases mem_insC.1 hd with rfl | hd
  ·exact hE
  ·exact (h.ents d hd).fr hf fun k hk hk'=>by
    have:=List.mem_singleton.1 hk'
    subst this
    exact hmb (mem_feet.2 ⟨d,hd,hk⟩)
 ·intro d hd
  rcases mem_insC.1 hd with rfl | hd
  ·exact hr
  ·exact h.names d hd
 ·rw [hfeet.nodup_iff,List.nodup_append]
  refine ⟨by simp [Cel.feet];omega,h.apart,fun a ha b hb e=>?_⟩
  subst e
  exact hnot a (by simp [homes,hb]) ha
 ·rw [hfeet.mem_iff,List.mem_append]
  exact fun hx=>hx.elim (hnot _ (by simp [homes])) h.home.1
 ·rw [hfeet.mem_iff,List.mem_append]
  exact fun hx=>hx.elim (hnot _ (by simp [homes])) h.home.2
theorem feet_rm (L:List Cel) (s:List UInt8):(feet (rmC L s)).Sublist (feet L):=by
 unfold feet rmC
 induction L with
 | nil=>exact List.Sublist.refl _
 | cons x l ih =>
   rw [List.filter_cons]
   split
   ·rw [List.flatMap_cons,List.flatMap_cons]
    exact (List.Sublist.refl _).append ih
   ·rw [List.flatMap_cons]
    exact ih.trans (List.sublist_append_right ..)
theorem DirW.rm (h:DirW w db mb L) (s:List UInt8) (hf:Fr [mb] w w') {es:Array MapEntry} {clock:Nat} (hm:mapAt w' mb=some (es,clock)) (hi:IsM Tryz.prog 9 es clock (upd (dirM L) (strL s) none)):DirW w' db mb (rmC L s):=by
 have hs:=feet_rm L s
 refine ⟨h.blk.fr hf (by simp;exact h.ne),⟨es,clock,hm,by rw [←dirM_rm h.rising];exact hi⟩,?_,h.rising.sublist List.filter_sublist,Nat.le_trans (List.length_filter_le ..) h.few,?_,hs.nodup h.apart,fun hk=>h.home.1 (hs.subset hk),fun hk=>h.home.2 (hs.subset hk)⟩
 ·intro d hd
  have hd:=(List.mem_filter.1 hd).1
  exact (h.ents d hd).fr hf fun k hk hk'=>by
   have:=List.mem_singleton.1 hk'
   subst this
   exact h.home.2 (mem_feet.2 ⟨d,hd,hk⟩)
 ·intro d hd
  exact h.names d (List.mem_filter.1 hd).1
end
section
variable {α:Type} (nm:α→List UInt8)
def nlFind (L:List α) (s:List UInt8):Option α:=L.find? fun x=>decide (nm x=s)
def NlRising (L:List α):Prop:=L.Pairwise fun a b=>nm a<nm b
def nlIns (c:α):List α→List α
 | []=>[c]
 | d :: l=>if nm c<nm d then c :: d :: l else d :: nlIns c l
def nlMod (L:List α) (s:List UInt8) (f:α→α):List α:=L.map fun d=>if nm d=s then f d else d
variable {nm}
theorem nlFind_mem {L:List α} {s:List UInt8} {c:α} (h:nlFind nm L s=some c):c∈L∧nm c=s:=⟨List.mem_of_find?_eq_some h,by simpa using List.find?_some h⟩
theorem nlFind_none {L:List α} {s:List UInt8}:nlFind nm L s=none ↔ ∀c∈L,nm c≠s:=by
 unfold nlFind
 rw [List.find?_eq_none]
 simp
theorem NlRising.inj {L:List α} (h:NlRising nm L):∀{a b:α},a∈L→b∈L→nm a=nm b→a=b:=by
 unfold NlRising at h
 induction h with
 | nil=>intro a b ha;cases ha
 | cons h1 _ ih =>
   intro a b ha hb he
   rcases List.mem_cons.1 ha with rfl | ha' <;> rcases List.mem_cons.1 hb with rfl | hb'
   ·rfl
   ·have:=h1 _ hb';rw [he] at this;exact absurd this (List.lt_irrefl _)
   ·have:=h1 _ ha';rw [he] at this;exact absurd this (List.lt_irrefl _)
   ·exact ih ha' hb' he
theorem nlFind_rising {L:List α} (h:NlRising nm L) {c:α} (hc:c∈L):nlFind nm L (nm c)=some c:=by
 cases hf:nlFind nm L (nm c) with
 | none=>exact absurd rfl (nlFind_none.1 hf c hc)
 | some d =>
   obtain ⟨h1,h2⟩:=nlFind_mem hf
   rw [h.inj h1 hc h2]
theorem nlIns_perm (c:α):∀L:List α,(nlIns nm c L).Perm (c :: L)
 | []=>List.Perm.refl _
 | d :: l=>by
   simp only [nlIns]
   split
   ·exact List.Perm.refl _
   ·exact ((nlIns_perm c l).cons d).trans (List.Perm.swap ..)
theorem mem_nlIns {c d:α} {L:List α}:d∈nlIns nm c L ↔ d=c∨d∈L:=by rw [(nlIns_perm c L).mem_iff,List.mem_cons]
theorem nlIns_len (c:α) (L:List α):(nlIns nm c L).length=L.length+1:=(nlIns_perm c L).length_eq
theorem nlIns_rising (c:α):∀{L:List α},NlRising nm L→(∀d∈L,nm d≠nm c)→NlRising nm (nlIns nm c L)
 | [],_,_=>List.pairwise_singleton _ _
 | d :: l,h,hne=>by
   simp only [nlIns]
   have h':=List.pairwise_cons.1 h
   split
   ·rename_i hlt
    refine List.pairwise_cons.2 ⟨fun x hx=>?_,h⟩
    rcases List.mem_cons.1 hx with rfl | hx
    ·exact hlt
    ·exact List.lt_trans hlt (h'.1 x hx)
   ·rename_i hlt
    refine List.pairwise_cons.2 ⟨fun x hx=>?_,nlIns_rising c h'.2 fun x hx=>hne x (List.mem_cons_of_mem _ hx)⟩
    rcases mem_nlIns.1 hx with rfl | hx
    ·exact not_lt_lt hlt (hne d List.mem_cons_self).symm
    ·exact h'.1 x hx
theorem nlFind_ins {c:α} {L:List α} (h:NlRising nm L) (hn:nlFind nm L (nm c)=none) (s:List UInt8):nlFind nm (nlIns nm c L) s=if s=nm c then some c else nlFind nm L s:=by
 have hr:NlRising nm (nlIns nm c L):=nlIns_rising c h (nlFind_none.1 hn)
 split
 ·rename_i e
  subst e
  exact nlFind_rising hr (mem_nlIns.2 (.inl rfl))
 ·rename_i e
  cases hf:nlFind nm L s with
  | none =>
    refine nlFind_none.2 fun d hd=>?_
    rcases mem_nlIns.1 hd with rfl | hd
    ·exact fun h=>e h.symm
    ·exact nlFind_none.1 hf d hd
  | some d =>
    obtain ⟨h1,h2⟩:=nlFind_mem hf
    have:=nlFind_rising hr (mem_nlIns.2 (.inr h1))
    rwa [h2] at this
theorem mem_nlMod {L:List α} {s:List UInt8} {f:α→α} {c:α}:c∈nlMod nm L s f ↔ ∃d∈L,c=if nm d=s then f d else d:=by
 unfold nlMod
 rw [List.mem_map]
 exact ⟨fun ⟨d,h,e⟩=>⟨d,h,e.symm⟩,fun ⟨d,h,e⟩=>⟨d,h,e.symm⟩⟩
theorem nlMod_name {s:List UInt8} {f:α→α} (hf:∀x,nm (f x)=nm x) (d:α):nm (if nm d=s then f d else d)=nm d:=by split <;> simp [hf]
theorem nlMod_rising {L:List α} (h:NlRising nm L) {s:List UInt8} {f:α→α} (hf:∀x,nm (f x)=nm x):NlRising nm (nlMod nm L s f):=by
 unfold NlRising nlMod
 rw [List.pairwise_map]
 refine List.Pairwise.imp ?_ h
 intro a b hab
 rw [nlMod_name hf,nlMod_name hf]
 exact hab
theorem nlFind_mod {L:List α} {s:List UInt8} {f:α→α} (hf:∀x,nm (f x)=nm x) (t:List UInt8):nlFind nm (nlMod nm L s f) t=(nlFind nm L t).map fun d=>if t=s then f d else d:=by
 unfold nlFind nlMod
 rw [List.find?_map]
 have e:((fun x=>decide (nm x=t)) ∘ fun d=>if nm d=s then f d else d)=fun x=>decide (nm x=t):=by
  funext d
  simp only [Function.comp]
  rw [nlMod_name hf]
 rw [e]
 cases h:List.find? (fun x=>decide (nm x=t)) L with
 | none=>rfl
 | some d =>
   have h1:nm d=t:=by simpa using List.find?_some h
   simp only [Option.map_some,h1]
theorem nlMod_len (L:List α) (s:List UInt8) (f:α→α):(nlMod nm L s f).length=L.length:=by simp [nlMod]
end
section
variable {α:Type} (nm:α→List UInt8) (ptr:α→Value)
def nlM (L:List α):Value→Option Value
 | .string s=>(nlFind nm L s.data.toList).map ptr
 | _=>none
variable {nm ptr}
theorem nlM_str (L:List α) (s:List UInt8):nlM nm ptr L (strL s)=(nlFind nm L s).map ptr:=rfl
theorem nlM_some {L:List α} {k v:Value} (h:nlM nm ptr L k=some v):∃c∈L,k=strL (nm c)∧v=ptr c:=by
 cases k with
 | string s =>
   unfold nlM at h
   obtain ⟨c,hc,rfl⟩:=Option.map_eq_some_iff.1 h
   obtain ⟨h1,h2⟩:=nlFind_mem hc
   exact ⟨c,h1,by rw [h2,str_eq],rfl⟩
 | _=>cases h
theorem nlM_ext {m:Value→Option Value} {L:List α} (h1:∀k v,m k=some v→∃s,k=strL s) (h2:∀s,m (strL s)=(nlFind nm L s).map ptr):m=nlM nm ptr L:=by
 funext k
 cases k with
 | string s=>rw [str_eq,h2,nlM_str]
 | _ =>
   cases h:m _ with
   | none=>rfl
   | some v =>
     obtain ⟨s,hs⟩:=h1 _ _ h
     cases hs
theorem nlM_strs (L:List α):∀k v,nlM nm ptr L k=some v→∃s,k=strL s:=fun k v h=>by
 obtain ⟨c,_,h1,_⟩:=nlM_some h
 exact ⟨_,h1⟩
theorem nlM_ins {L:List α} {c:α} (h:NlRising nm L) (hn:nlFind nm L (nm c)=none):upd (nlM nm ptr L) (strL (nm c)) (some (ptr c))=nlM nm ptr (nlIns nm c L) :=
 nlM_ext (upd_strs (nlM_strs L) _ _) fun s=>by
  rw [upd_str,nlFind_ins h hn,nlM_str]
  split <;> rfl
theorem nlM_mod {L:List α} {s:List UInt8} {f:α→α} (hf:∀x,nm (f x)=nm x) (hp:∀x,ptr (f x)=ptr x):nlM nm ptr L=nlM nm ptr (nlMod nm L s f) :=
 nlM_ext (nlM_strs L) fun t=>by
  rw [nlFind_mod hf,nlM_str,Option.map_map]
  congr 1
  funext d
  simp only [Function.comp]
  split
  ·rw [hp]
  ·rfl
theorem nl_key (L:List α):∀x,x∈L.map (fun c=>strL (nm c)) ↔ (nlM nm ptr L x).isSome=true:=by
 intro x
 constructor
 ·intro h
  obtain ⟨c,hc,rfl⟩:=List.mem_map.1 h
  rw [nlM_str]
  cases hf:nlFind nm L (nm c) with
  | none=>exact absurd rfl (nlFind_none.1 hf c hc)
  | some d=>rfl
 ·intro h
  obtain ⟨v,hv⟩:=Option.isSome_iff_exists.1 h
  obtain ⟨c,hc,rfl,_⟩:=nlM_some hv
  exact List.mem_map.2 ⟨c,hc,rfl⟩
theorem nl_size {L:List α} {es:Array MapEntry} {clock:Nat} (h:NlRising nm L) (hi:IsM Tryz.prog 9 es clock (nlM nm ptr L)):es.size=L.length:=by
 have:=hi.size (ks:=L.map fun c=>strL (nm c)) (List.pairwise_map.2 (h.imp fun {a b} hab e=>by rw [strL_inj e] at hab;exact absurd hab (List.lt_irrefl _))) (nl_key L)
 rw [this,List.length_map]
end
end Go.Proofs.YtffnihooekbcnaaGreat
namespace Go.Proofs.YtffnihooekbcnaaGreat
open Go.RowKit
abbrev By:=List UInt8
structure Img where
 B:Nat
 t:List Slt
 n:List Nat
 d:Nat→Option By
 s:List (By × List Slt)
def hst (s:Slt):Nat:=s.2.1.toNat
def isH (h:Nat) (s:Slt):Bool:=decide (s.1=1) && decide (hst s=h)
def cntT (l:List Slt) (h:Nat):Nat:=l.countP (isH h)
def cntS (s:List (By × List Slt)) (h:Nat):Nat:=(s.map fun p=>cntT p.2 h).sum
def refs (M:Img) (h:Nat):Nat:=cntT M.t h+cntS M.s h
def zBy (n:Nat):By:=List.replicate n 0
def Img.z (M:Img):Nat:=16*2 ^ M.B
def ng (M:Img) (h:Nat):Nat:=M.n.getD h 0
def conS (M:Img) (s:Slt):By:=if s.1=1 then (M.d (hst s)).getD [] else zBy M.z
def conC (M:Img) (c:Nat):By:=conS M (M.t.getD c zS)
def fr1 (n:List Nat):Nat:=n.findIdx fun x=>decide (x=0)
def freeN (n:List Nat):Nat:=n.countP fun x=>decide (x=0)
theorem cntT_set {l:List Slt} {c:Nat} (hc:c<l.length) (s:Slt) (h:Nat):cntT (l.set c s) h+(if isH h (l.getD c zS)=true then 1 else 0)=cntT l h+(if isH h s=true then 1 else 0):=by
 unfold cntT
 rw [List.countP_set hc]
 have hg:l.getD c zS=l[c]:=by rw [List.getD_eq_getElem?_getD,List.getElem?_eq_getElem hc];rfl
 rw [hg]
 have hpos:isH h l[c]=true→0<l.countP (isH h):=fun hp=>List.countP_pos_iff.2 ⟨_,List.getElem_mem hc,hp⟩
 by_cases h1:isH h l[c]=true
 ·have:=hpos h1
  rw [if_pos h1]
  omega
 ·rw [if_neg h1]
  omega
theorem cntT_pos {l:List Slt} {h:Nat}:0<cntT l h ↔ ∃s∈l,s.1=1∧hst s=h:=by
 unfold cntT
 rw [List.countP_pos_iff]
 simp [isH]
theorem getD_memS {l:List Slt} {c:Nat} (hc:c<l.length):l.getD c zS∈l:=by
 rw [List.getD_eq_getElem?_getD,List.getElem?_eq_getElem hc];exact List.getElem_mem hc
theorem isH_iff {h:Nat} {s:Slt}:isH h s=true ↔ s.1=1∧hst s=h:=by simp [isH]
theorem isH_ne {h:Nat} {s:Slt} (h1:s.1≠1):isH h s=false:=by simp [isH,h1]
theorem cntS_pos {s:List (By × List Slt)} {h:Nat}:0<cntS s h ↔ ∃p∈s,0<cntT p.2 h:=by
 unfold cntS
 induction s with
 | nil=>simp
 | cons p l ih =>
   simp only [List.map_cons,List.sum_cons,List.mem_cons,exists_eq_or_imp]
   rw [←ih]
   omega
theorem getD_setN (l:List Nat) (k h x:Nat) (hk:k<l.length):(l.set k x).getD h 0=if h=k then x else l.getD h 0:=by
 simp only [List.getD_eq_getElem?_getD,List.getElem?_set]
 by_cases e:h=k
 ·subst e;rw [if_pos rfl,if_pos hk,if_pos rfl];rfl
 ·rw [if_neg (fun h=>e h.symm),if_neg e]
theorem getD_posN {l:List Nat} {h:Nat} (hp:0<l.getD h 0):h<l.length:=by
 by_cases hh:h<l.length
 ·exact hh
 ·rw [List.getD_eq_getElem?_getD,List.getElem?_eq_none (by omega)] at hp
  exact absurd hp (Nat.lt_irrefl _)
theorem one_at {l:List Slt} {h c c':Nat} (h1:cntT l h≤1) (hc:c<l.length) (hc':c'<l.length) (e:isH h (l.getD c zS)=true) (e':isH h (l.getD c' zS)=true):c=c':=by
 refine Classical.byContradiction fun hne=>?_
 have h2:=cntT_set hc zS h
 rw [if_pos e,if_neg (by simp [isH,zS])] at h2
 have:0<cntT (l.set c zS) h:=by
  refine cntT_pos.2 ⟨l.getD c' zS,?_,isH_iff.1 e'⟩
  rw [List.getD_eq_getElem?_getD,List.getElem?_eq_getElem hc'] 
  refine List.mem_iff_getElem.2 ⟨c',by simpa using hc',?_⟩
  rw [List.getElem_set_ne hne]
  rfl
 omega
structure OkJ (M:Img):Prop where
 B:M.B≤3
 len:M.t.length≤256
 room:M.n.length≤512
 right:∀s∈M.t,rightS s=true
 rights:∀p∈M.s,∀s∈p.2,rightS s=true
 lens:∀p∈M.s,p.2.length≤256
 cnt:∀h,ng M h=refs M h
 one:∀h,cntT M.t h≤1
 ones:∀p∈M.s,∀h,cntT p.2 h≤1
 gone:∀h,ng M h=0→M.d h=none
 dat:∀h,0<ng M h→∃b,M.d h=some b∧b.length=M.z
 names:∀p∈M.s,okName p.1=true
 nodup:(M.s.map (·.1)).Nodup
 few:M.s.length≤8
structure OkI (M:Img):Prop extends OkJ M where
 own:∀s∈M.t,s.1=1→s.2.2=decide (ng M (hst s)=1)
section
variable {M:Img} (h:OkJ M)
include h
theorem OkJ.live {s:Slt} (hs:s∈M.t) (h1:s.1=1):0<ng M (hst s):=by
 rw [h.cnt]
 have:0<cntT M.t (hst s):=cntT_pos.2 ⟨s,hs,h1,rfl⟩
 unfold refs
 omega
theorem OkJ.lives {s:Slt} {p:By × List Slt} (hp:p∈M.s) (hs:s∈p.2) (h1:s.1=1):0<ng M (hst s):=by
 rw [h.cnt]
 have:0<cntS M.s (hst s):=cntS_pos.2 ⟨p,hp,cntT_pos.2 ⟨s,hs,h1,rfl⟩⟩
 unfold refs
 omega
theorem OkJ.con {s:Slt} (hs:s∈M.t):(conS M s).length=M.z:=by
 unfold conS
 split
 ·rename_i h1
  obtain ⟨b,hb,hl⟩:=h.dat _ (h.live hs h1)
  rw [hb]
  exact hl
 ·simp [zBy]
theorem OkJ.conc (c:Nat):(conC M c).length=M.z:=by
 unfold conC
 by_cases hc:c<M.t.length
 ·exact h.con (getD_memS hc)
 ·rw [List.getD_eq_getElem?_getD,List.getElem?_eq_none (by omega)]
  simp [conS,zS,zBy]
end
theorem ng_lt {M:Img} {k:Nat} (hk:0<ng M k):k<M.n.length:=getD_posN hk
theorem host_nat {s:Slt} (h:rightS s=true) (h1:s.1=1):s.2.1=(hst s:Int)∧hst s<512:=by
 obtain ⟨a,b,c⟩:=s
 simp only at h1
 subst h1
 simp [rightS] at h
 simp only [hst]
 omega
def setF (d:Nat→Option By) (h:Nat) (v:Option By):Nat→Option By:=fun k=>if k=h then v else d k
def lessI (M:Img) (s:Slt):Img:=if s.1=1 then { M with n:=M.n.set (hst s) (ng M (hst s) - 1),d:=if ng M (hst s) - 1=0 then setF M.d (hst s) none else M.d } else M
def setI (M:Img) (c:Nat) (s:Slt):Img:=lessI { M with t:=M.t.set c s } (M.t.getD c zS)
theorem less_n {M:Img} {s:Slt} (hs:s.1=1→hst s<M.n.length) (h:Nat):ng (lessI M s) h=ng M h - (if isH h s=true then 1 else 0):=by
 unfold lessI
 by_cases h1:s.1=1
 ·rw [if_pos h1]
  unfold ng at *
  simp only
  rw [getD_setN _ _ _ _ (hs h1)]
  by_cases e:h=hst s
  ·subst e;rw [if_pos rfl,if_pos (by simp [isH,h1])]
  ·rw [if_neg e,if_neg (by simp [isH,h1];exact fun h'=>e h'.symm)]
   rfl
 ·rw [if_neg h1,isH_ne h1]
  rfl
theorem less_d {M:Img} {s:Slt} (h:Nat):(lessI M s).d h=if isH h s=true∧ng M h - 1=0 then none else M.d h:=by
 unfold lessI
 by_cases h1:s.1=1
 ·rw [if_pos h1]
  simp only
  by_cases e:h=hst s
  ·subst e
   have:isH (hst s) s=true:=by simp [isH,h1]
   split
   ·rename_i hz;rw [if_pos ⟨this,hz⟩];simp [setF]
   ·rename_i hz;rw [if_neg (fun hh=>hz hh.2)]
  ·have:¬(isH h s=true∧ng M h - 1=0):=fun hh=>e (isH_iff.1 hh.1).2.symm
   rw [if_neg this]
   split
   ·simp [setF,e]
   ·rfl
 ·rw [if_neg h1,isH_ne h1]
  simp
theorem less_keep (M:Img) (s:Slt):(lessI M s).B=M.B∧(lessI M s).t=M.t∧(lessI M s).s=M.s∧(lessI M s).n.length=M.n.length:=by
 unfold lessI
 split <;> simp
end Go.Proofs.YtffnihooekbcnaaGreat
