/-
  Sums of bytes; backups and lists of them, in plain Lean: their bytes, what is restored.
-/
import Derived.Test.YtffnihooekbcnaaGreatG03
import Derived.Test.YtffnihooekbcnaaGreatG13
set_option maxRecDepth 100000
set_option maxHeartbeats 6400000
namespace Go.Proofs.YtffnihooekbcnaaGreat
open Go.RowKit
def smS (s:Nat × Nat) (c:UInt8):Nat × Nat:=((s.1+c.toNat) % 65521,(s.2+(s.1+c.toNat) % 65521) % 65521)
def smL (l:By):Nat × Nat:=l.foldl smS (1,0)
def sumN (l:By):Nat:=65536*(smL l).2+(smL l).1
theorem smL_snoc (l:By) (b:UInt8):smL (l++[b])=smS (smL l) b:=by simp [smL]
theorem smL_lt:∀l:By,(smL l).1<65521∧(smL l).2<65521:=by
 refine snoc_ind (by simp [smL]) fun l b _=>?_
 rw [smL_snoc]
 exact ⟨Nat.mod_lt _ (by decide),Nat.mod_lt _ (by decide)⟩
theorem sumN_lt (l:By):sumN l<256 ^ 4:=by
 have:=smL_lt l
 unfold sumN
 omega
def sealB (l:By):By:=l++numL 4 (sumN l)
theorem sealB_len (l:By):(sealB l).length=l.length+4:=by simp [sealB,numL_length]
def headB (b:By):By:=sealB (numL 4 1++numL 4 b.length++numL 4 (sumN b))
theorem headB_len (b:By):(headB b).length=16:=by simp [headB,sealB_len,numL_length]
theorem zero_open:sealB (zBy 12)≠zBy 16:=by decide
structure Bk where
 nm:By
 pa:By
 n:Nat
 ps:List (Nat × By)
structure GoodB (b:Bk):Prop where
 nm:okName b.nm=true
 pa:b.pa.length≤15
 n:b.n≤256
 up:b.ps.Pairwise fun p q=>p.1<q.1
 ins:∀p∈b.ps,p.1<b.n∧p.2.length=32
 all:b.pa≠[]∨b.ps.length=b.n
structure GoodL (l:List Bk):Prop where
 one:∀b∈l,GoodB b
 apart:l.Pairwise fun a b=>a.nm≠b.nm
 par:∀(i:Nat) (b:Bk),l[i]? = some b→b.pa≠[]→∃(j:Nat) (c:Bk),j<i∧l[j]? = some c∧c.nm=b.pa
 few:l.length≤64
theorem GoodB.nonil {b:Bk} (h:GoodB b):b.nm≠[]:=fun e=>by
 have:=h.nm
 rw [e] at this
 simp [okName] at this
theorem rise_len (n:Nat):∀(l:List (Nat × By)) (a:Nat),l.Pairwise (fun p q=>p.1<q.1)→(∀p∈l,a≤p.1∧p.1<a+n)→l.length≤n:=by
 induction n with
 | zero =>
   intro l a _ h
   cases l with
   | nil=>simp
   | cons p r=>have:=h p List.mem_cons_self;omega
 | succ n ih =>
   intro l a hp h
   cases l with
   | nil=>simp
   | cons p r =>
     rw [List.pairwise_cons] at hp
     have:=ih r (a+1) hp.2 (fun q hq=>by
      have h1:=hp.1 q hq
      have h2:=h p List.mem_cons_self
      have h3:=h q (List.mem_cons_of_mem _ hq)
      omega)
     rw [List.length_cons]
     omega
theorem GoodB.plen {b:Bk} (h:GoodB b):b.ps.length≤b.n:=rise_len b.n b.ps 0 h.up fun p hp=>⟨Nat.zero_le _,by have:=(h.ins p hp).1;omega⟩
def pcB (p:Nat × By):By:=numL 2 p.1++numL 2 p.2.length++p.2
def bkB (b:Bk):By:=numL 1 b.nm.length++b.nm++numL 1 b.pa.length++b.pa++numL 1 1++(numL 2 b.n++numL 2 b.ps.length)++b.ps.flatMap pcB
def lsB (l:List Bk):By:=numL 1 l.length++l.flatMap bkB
theorem flatMap_le {α:Type} (f:α→By) (m:Nat):∀l:List α,(∀x∈l,(f x).length≤m)→(l.flatMap f).length≤l.length*m
 | [],_=>by simp
 | x :: l,h=>by
   rw [List.flatMap_cons,List.length_append,List.length_cons,Nat.add_mul]
   have h1:=h x List.mem_cons_self
   have h2:=flatMap_le f m l fun y hy=>h y (List.mem_cons_of_mem _ hy)
   omega
theorem GoodB.bytes {b:Bk} (h:GoodB b):(bkB b).length≤37+36*b.n:=by
 have h1:=flatMap_le pcB 36 b.ps fun p hp=>by
  have:=(h.ins p hp).2
  simp [pcB,numL_length]
  omega
 have h2:=okName_len h.nm
 have h3:=h.pa
 have h4:=h.plen
 simp [bkB,numL_length] at h1 ⊢
 omega
theorem lsB_len {l:List Bk} {n:Nat} (h:∀b∈l,GoodB b∧b.n=n):(lsB l).length≤1+l.length*(37+36*n):=by
 have:=flatMap_le bkB (37+36*n) l fun b hb=>by
  have:=(h b hb).1.bytes
  rw [(h b hb).2] at this
  exact this
 simp [lsB,numL_length] at this ⊢
 omega
def pieceAt (ps:List (Nat × By)) (k:Nat):Option By:=(ps.find? fun p=>p.1 == k).map (·.2)
def cont:List Bk→By→Nat→By
 | [],_,_=>zBy 32
 | b :: r,s,k=>if b.nm=s then (match pieceAt b.ps k with | some x=>x | none=>if b.pa=[] then zBy 32 else cont r b.pa k) else cont r s k
theorem cont_skip {s:By} {k:Nat} {r:List Bk}:∀{q:List Bk},(∀b∈q,b.nm≠s)→cont (q++r) s k=cont r s k
 | [],_=>rfl
 | b :: q,h=>by
   show (if b.nm=s then _ else cont (q++r) s k)=_
   rw [if_neg (h b List.mem_cons_self),cont_skip fun x hx=>h x (List.mem_cons_of_mem _ hx)]
theorem pieceAt_mem {ps:List (Nat × By)} {k:Nat} {x:By} (h:pieceAt ps k=some x):(k,x)∈ps:=by
 unfold pieceAt at h
 obtain ⟨p,hp,rfl⟩:=Option.map_eq_some_iff.1 h
 have h1:=List.mem_of_find?_eq_some hp
 have h2:=List.find?_some hp
 simp at h2
 subst h2
 exact h1
theorem cont_len {s:By} {k:Nat}:∀{r:List Bk},(∀b∈r,∀p∈b.ps,p.2.length=32)→(cont r s k).length=32
 | [],_=>by simp [cont,zBy]
 | b :: r,h=>by
   have ih:=fun t=>cont_len (s:=t) (k:=k) (r:=r) fun x hx=>h x (List.mem_cons_of_mem _ hx)
   unfold cont
   split
   ·split
    ·rename_i x hx
     exact h b List.mem_cons_self _ (pieceAt_mem hx)
    ·split
     ·simp [zBy]
     ·exact ih _
   ·exact ih _
def catN (n:Nat) (f:Nat→By):By:=(List.range n).flatMap f
theorem catN_len {n:Nat} {f:Nat→By} (h:∀k,k<n→(f k).length=32):(catN n f).length=n*32:=by
 unfold catN
 induction n with
 | zero=>simp
 | succ n ih =>
   rw [List.range_succ,List.flatMap_append,List.length_append,ih fun k hk=>h k (by omega)]
   have:=h n (by omega)
   simp [this]
   omega
theorem catN_congr {n:Nat} {f g:Nat→By} (h:∀k,k<n→f k=g k):catN n f=catN n g:=by
 induction n with
 | zero=>rfl
 | succ n ih =>
   unfold catN at ih ⊢
   rw [List.range_succ,List.flatMap_append,List.flatMap_append,ih fun k hk=>h k (by omega)]
   simp [h n (by omega)]
theorem catN_succ (n:Nat) (f:Nat→By):catN (n+1) f=catN n f++f n:=by
 unfold catN
 rw [List.range_succ,List.flatMap_append]
 simp
end Go.Proofs.YtffnihooekbcnaaGreat
namespace Go.Proofs.YtffnihooekbcnaaGreat
open Go.RowKit Go.Maps
attribute [local go_sem] mapAt_alloc mapAt_setCell mapAt_drew mapAt_drewN cells_str store_str eql_str neq_str guard_str len_str
abbrev Pcv:=Nat × By × Value
abbrev pvC (x:Pcv):List Value:=[.int .i64 (x.1:Int),x.2.2]
def zPv:Pcv:=(0,[],.slice none 0 0)
def inO (o:Nat→Prop) (v:Value):Prop:=∀k,v.ownBlock=some k→o k
structure PcsW (w:World) (o:Nat→Prop) (v:Value) (xs:List Pcv):Prop where
 sl:SlF pvC w v xs
 own:inO o v
 byt:∀x∈xs,SlY w x.2.2 x.2.1∧inO o x.2.2∧okV x.2.2
def unP (xs:List Pcv):List (Nat × By):=xs.map fun x=>(x.1,x.2.1)
abbrev Bkv:=Bk × Value × List Pcv
abbrev bvC (y:Bkv):List Value:=[strL y.1.nm,strL y.1.pa,.int .i64 1,.int .i64 (y.1.n:Int),y.2.1]
def zBv:Bkv:=(⟨[],[],0,[]⟩,.slice none 0 0,[])
structure BakW (w:World) (o:Nat→Prop) (y:Bkv):Prop where
 pcs:PcsW w o y.2.1 y.2.2
 ps:y.1.ps=unP y.2.2
structure LstW (w:World) (lb:Nat) (o:Nat→Prop) (v:Value) (ys:List Bkv):Prop where
 blk:Blk w lb [v] 69
 row:w.ownsRow 0 60 5 v ys.length (ys.flatMap bvC)
 own:inO o v
 one:∀y∈ys,BakW w (fun k=>o k∧k≠lb∧v.ownBlock≠some k) y
 ob:o lb
 ne:v.ownBlock≠some lb
 low:∀k,o k→k<w.heap.size
section
variable {w w':World} {o o':Nat→Prop} {M:List Nat}
theorem PcsW.fr {v:Value} {xs:List Pcv} (h:PcsW w o v xs) (hf:Fr M w w') (hM:∀k∈M,¬o k):PcsW w' o v xs :=
 ⟨SlF.fr h.sl hf fun k hk hm=>hM k hm (h.own k hk),h.own,fun x hx=>⟨SlF.fr (h.byt x hx).1 hf fun k hk hm=>hM k hm ((h.byt x hx).2.1 k hk),(h.byt x hx).2⟩⟩
theorem PcsW.fr0 {v:Value} {xs:List Pcv} (h:PcsW w o v xs) (hf:Fr [] w w'):PcsW w' o v xs:=h.fr hf (by simp)
theorem PcsW.mono {v:Value} {xs:List Pcv} (h:PcsW w o v xs) (ho:∀k,o k→o' k):PcsW w o' v xs :=
 ⟨h.sl,fun k hk=>ho k (h.own k hk),fun x hx=>⟨(h.byt x hx).1,fun k hk=>ho k ((h.byt x hx).2.1 k hk),(h.byt x hx).2.2⟩⟩
theorem BakW.fr {y:Bkv} (h:BakW w o y) (hf:Fr M w w') (hM:∀k∈M,¬o k):BakW w' o y:=⟨h.pcs.fr hf hM,h.ps⟩
theorem BakW.mono {y:Bkv} (h:BakW w o y) (ho:∀k,o k→o' k):BakW w o' y:=⟨h.pcs.mono ho,h.ps⟩
theorem LstW.fr {lb:Nat} {v:Value} {ys:List Bkv} (h:LstW w lb o v ys) (hf:Fr M w w') (hM:∀k∈M,¬o k):LstW w' lb o v ys :=
 ⟨h.blk.fr hf fun hm=>hM _ hm h.ob,owns_fr h.row hf fun k hk hm=>hM k hm (h.own k hk),h.own,fun y hy=>(h.one y hy).fr hf fun k hk hh=>hM k hk hh.1,h.ob,h.ne,fun k hk=>Nat.lt_of_lt_of_le (h.low k hk) hf.size⟩
theorem LstW.fr0 {lb:Nat} {v:Value} {ys:List Bkv} (h:LstW w lb o v ys) (hf:Fr [] w w'):LstW w' lb o v ys:=h.fr hf (by simp)
theorem LstW.sl {lb:Nat} {v:Value} {ys:List Bkv} (h:LstW w lb o v ys):SlF bvC w v ys:=SlF.of_owns h.row
theorem SlF.bkAt {a:Option Addr} {cap n:Nat} {ys:List Bkv} (h:SlF bvC w (.slice a n cap) ys) {i:Nat} (hi:i<ys.length):∃b off,a=some ⟨b,off,none⟩∧b<w.heap.size ∧
 w.cell? ⟨b,off+i*5,none⟩=some (strL (ys.getD i zBv).1.nm)∧w.cell? ⟨b,off+i*5+1,none⟩=some (strL (ys.getD i zBv).1.pa)∧w.cell? ⟨b,off+i*5+2,none⟩=some (.int .i64 1) ∧
 w.cell? ⟨b,off+i*5+3,none⟩=some (.int .i64 ((ys.getD i zBv).1.n:Int))∧w.cell? ⟨b,off+i*5+4,none⟩=some (ys.getD i zBv).2.1:=by
 obtain ⟨a',cap',hv,_,_,hc⟩:=SlF.open h
 cases hv
 obtain ⟨b,off,rfl,hb,hc⟩:=hc 5 (fun _=>rfl) (by omega) i _ (getD_some zBv hi)
 exact ⟨b,off,rfl,hb,hc 0 _ rfl,hc 1 _ rfl,hc 2 _ rfl,hc 3 _ rfl,hc 4 _ rfl⟩
theorem SlF.pcAt {a:Option Addr} {cap n:Nat} {xs:List Pcv} (h:SlF pvC w (.slice a n cap) xs) {i:Nat} (hi:i<xs.length):∃b off,a=some ⟨b,off,none⟩∧b<w.heap.size ∧
 w.cell? ⟨b,off+i*2,none⟩=some (.int .i64 ((xs.getD i zPv).1:Int))∧w.cell? ⟨b,off+i*2+1,none⟩=some (xs.getD i zPv).2.2:=by
 obtain ⟨a',cap',hv,_,_,hc⟩:=SlF.open h
 cases hv
 obtain ⟨b,off,rfl,hb,hc⟩:=hc 2 (fun _=>rfl) (by omega) i _ (getD_some zPv hi)
 exact ⟨b,off,rfl,hb,hc 0 _ rfl,hc 1 _ rfl⟩
theorem getD_memB {α:Type} {l:List α} {i:Nat} (h:i<l.length) (z:α):l.getD i z∈l:=by
 rw [List.getD_eq_getElem?_getD,List.getElem?_eq_getElem h]
 exact List.getElem_mem _
end
def fdI (ys:List Bkv) (s:By):Option Nat:=ys.findIdx? fun y=>decide (y.1.nm=s)
def fdV:Option Nat→Int
 | some i=>(i:Int)
 | none=>-1
section
variable {w w':World} {o:Nat→Prop} {lb:Nat} {v:Value} {ys:List Bkv}
def lsNewPost (w:World) (e:Ending) (w':World):Prop:=∃lb,e=.returned (.pointer (some ⟨lb,0,none⟩))∧w.heap.size≤lb∧LstW w' lb (fun k=>k=lb) (.slice none 0 0) []∧Fr [] w w'
theorem lsNew_calls (w:World):Calls Tryz.prog 36 #[] w (lsNewPost w):=by
 go_enter Tryz.func36,Tryz.ntmps36
 go_wp2
 go_ret
 refine ⟨w.heap.size,rfl,Nat.le_refl _,⟨Blk.new w [.slice none 0 0] _,World.ownsRow_nil _ _ _ _,fun k hk=>(by cases hk),fun y hy=>(by cases hy),rfl,fun h=>(by cases h),fun k hk=>by subst hk;simp⟩,(Fr.refl [] w).alloc _⟩
theorem lsFind1_calls (y:Bkv) (s:By) (sb:Nat) (w:World) (hs:Blk w sb [strL s] 9) (hsl:∃a n c,y.2.1=.slice a n c) :
 Calls Tryz.prog 69 #[.agg #[strL y.1.nm,strL y.1.pa,.int .i64 1,.int .i64 (y.1.n:Int),y.2.1],.pointer (some ⟨sb,0,none⟩)] w fun e w'=>e=.returned (.bool (decide (y.1.nm=s)))∧Fr [] w w':=by
 have c:=hs.cell
 have hsb:=hs.lt
 obtain ⟨a,n,cp,hv⟩:=hsl
 rw [hv]
 obtain ⟨S,hS⟩:∃S,Hid (strL s=Value.string S):=⟨_,hidIt rfl⟩
 obtain ⟨N,hN⟩:∃S,Hid (strL y.1.nm=Value.string S):=⟨_,hidIt rfl⟩
 obtain ⟨Q,hQ⟩:∃S,Hid (strL y.1.pa=Value.string S):=⟨_,hidIt rfl⟩
 have hq:binOp .eql 9 (.string N) (.string S)=pure (.bool (decide (y.1.nm=s))):=by rw [←hS.out,←hN.out,eql_str]
 have hg:∀(op:BinOp) (x y':Operand) (w:World),(eqGuard op 9 x y' (.string N) (.string S)).run Tryz.prog w=.ok () w:=fun op x y' w=>by rw [←hS.out,←hN.out];exact guard_str _ _ _ _ _ _
 rw [hS.out] at c
 rw [hN.out,hQ.out]
 generalize decide (y.1.nm=s)=B at *
 go_enter Tryz.func69,Tryz.ntmps69
 go_wp2
 go_ret
 exact ⟨rfl,(Fr.refl [] w).alloc _⟩
theorem fdI_none {ys:List Bkv} {s:By} (h:fdI ys s=none):∀y∈ys,y.1.nm≠s:=fun y hy=>by
 have:=List.findIdx?_eq_none_iff.1 h y hy
 simpa using this
theorem fdI_some {ys:List Bkv} {s:By} {i:Nat} (h:fdI ys s=some i):i<ys.length∧(ys.getD i zBv).1.nm=s∧∀j,j<i→(ys.getD j zBv).1.nm≠s:=by
 obtain ⟨h1,h2,h3⟩:=List.findIdx?_eq_some_iff_getElem.1 h
 refine ⟨h1,?_,fun j hj=>?_⟩
 ·rw [List.getD_eq_getElem?_getD,List.getElem?_eq_getElem h1]
  simpa using h2
 ·rw [List.getD_eq_getElem?_getD,List.getElem?_eq_getElem (by omega)]
  simpa using h3 j hj
theorem fdI_at {ys:List Bkv} {s:By} {i:Nat} (h1:i<ys.length) (h2:(ys.getD i zBv).1.nm=s) (h3:∀j,j<i→(ys.getD j zBv).1.nm≠s):fdI ys s=some i:=by
 refine List.findIdx?_eq_some_iff_getElem.2 ⟨h1,?_,fun j hj=>?_⟩
 ·rw [List.getD_eq_getElem?_getD,List.getElem?_eq_getElem h1] at h2
  simpa using h2
 ·have:=h3 j hj
  rw [List.getD_eq_getElem?_getD,List.getElem?_eq_getElem (by omega)] at this
  simpa using this
theorem fdI_no {ys:List Bkv} {s:By} (h:∀y∈ys,y.1.nm≠s):fdI ys s=none:=List.findIdx?_eq_none_iff.2 fun y hy=>by simpa using h y hy
theorem lsIdx_calls (a:Option Addr) (cap:Nat) (s:By) (sb:Nat) (w:World) (hsl:SlF bvC w (.slice a ys.length cap) ys) (hb:∀y∈ys,BakW w o y) (hs:Blk w sb [strL s] 9) :
 Calls Tryz.prog 68 #[.slice a ys.length cap,.func (.func 69) #[] #[.pointer (some ⟨sb,0,none⟩)]] w fun e w'=>e=.returned (.int .i64 (fdV (fdI ys s)))∧Fr [] w w':=by
 have hcap:ys.length≤9223372036854775807:=by
  obtain ⟨_,c2,hv,h1,h2,_⟩:=SlF.open hsl
  cases hv
  unfold maxLen at h2
  omega
 obtain ⟨R,hR⟩:∃R,Hid (fdV (fdI ys s)=R):=⟨_,hidIt rfl⟩
 rw [hR.out]
 go_enter Tryz.func68,Tryz.ntmps68
 go_wp2_with fail
 go_loopw [8] (fun i wr=>∃k:Nat,k≤ys.length∧i=.int .i64 (k:Int)∧Fr [] w wr∧Hid (∀j,j<k→(ys.getD j zBv).1.nm≠s)) (fun i _=>ys.length - (intOf i).toNat)
 case atStart=>exact ⟨0,Nat.zero_le _,rfl,Fr.refl _ _,hidIt (fun j hj=>absurd hj (Nat.not_lt_zero _))⟩
 case round =>
 obtain ⟨k,hk,rfl,hF,hno⟩:=hrel
 by_cases hlt:k<ys.length
 case neg =>
  have hke:k=ys.length:=by omega
  have hRe:Hid (R=-1):=hidIt (by
   rw [←hR.out,fdI_no (fun y hy=>?_)]
   ·rfl
   ·obtain ⟨j,hj,rfl⟩:=List.getElem_of_mem hy
    have:=hno.out j (by omega)
    rwa [List.getD_eq_getElem?_getD,List.getElem?_eq_getElem hj] at this)
  have hlt':¬(k:Int)<(ys.length:Int):=by omega
  clear hR hno
  go_wp2
  go_ret
  exact ⟨by rw [hRe.out];rfl,hF⟩
 have hym:=getD_memB hlt zBv
 have hsl2:=hsl
 obtain ⟨b,off,rfl,hbb,d0,d1,d2,d3,d4⟩:=SlF.bkAt (SlF.fr0 hsl hF) hlt
 obtain ⟨pa,pc,hpv,_⟩:=SlF.open (hb _ hym).pcs.sl
 have kF:=fun X (hX:Fr [] w X)=>lsFind1_calls (ys.getD k zBv) s sb X (hs.fr0 hX) ⟨_,_,_,hpv⟩
 have hnk:Hid (∀j,(ys.getD k zBv).1.nm≠s→j<k+1→(ys.getD j zBv).1.nm≠s):=hidIt (fun j h1 hj=>by
  by_cases e:j=k
  ·rw [e];exact h1
  ·exact hno.out j (by omega))
 have hyk:Hid ((ys.getD k zBv).1.nm=s→R=(k:Int)):=hidIt (fun h=>by rw [←hR.out,fdI_at hlt h hno.out];rfl)
 clear hR hno hsl hsl2
 rw [hpv] at d4 kF
 generalize ys.getD k zBv=y at *
 obtain ⟨N,hN⟩:∃S,Hid (strL y.1.nm=Value.string S):=⟨_,hidIt rfl⟩
 obtain ⟨Q,hQ⟩:∃S,Hid (strL y.1.pa=Value.string S):=⟨_,hidIt rfl⟩
 rw [hN.out] at kF d0
 rw [hQ.out] at kF d1
 generalize y.2.2.length=pl at *
 generalize y.1.n=yn at *
 by_cases hys:y.1.nm=s
 ·have hd:=decide_eq_true hys
  rw [hd] at kF
  have hRk:=hidIt (hyk.out hys)
  clear hys hd hnk hyk
  go_wp2_with fail
  refine (kF _ hF).mono ?_
  rintro e w2 ⟨rfl,hf2⟩
  clear kF d0 d1 d2 d3 d4
  go_wp2
  go_ret
  exact ⟨by rw [hRk.out];rfl,hF.trans0 hf2⟩
 ·have hd:=decide_eq_false hys
  rw [hd] at kF
  have hnk2:Hid (∀j,j<k+1→(ys.getD j zBv).1.nm≠s):=hidIt (fun j hj=>hnk.out j hys hj)
  clear hys hd hnk hyk
  go_wp2_with fail
  refine (kF _ hF).mono ?_
  rintro e w2 ⟨rfl,hf2⟩
  clear kF d0 d1 d2 d3 d4
  go_wp2
  go_roundw
  case rel=>exact ⟨k+1,by omega,by go_num,hF.trans0 hf2,hnk2⟩
  case measure=>simp [intOf];omega
theorem lsFind_calls (s:By) (h:LstW w lb o v ys):Calls Tryz.prog 30 #[.pointer (some ⟨lb,0,none⟩),strL s] w fun e w'=>e=.returned (.int .i64 (fdV (fdI ys s)))∧Fr [] w w':=by
 obtain ⟨a,cap,rfl,_⟩:=SlF.open h.sl
 obtain ⟨S,hS⟩:∃S,Hid (strL s=Value.string S):=⟨_,hidIt rfl⟩
 have c:=h.blk.cell
 have hl:=h.blk.lt
 have hF:=(Fr.refl [] w).alloc (.cells #[.string S] 9)
 have B:=Blk.new w [.string S] 9
 have h1:=h.fr0 hF
 have kI:=lsIdx_calls a cap s w.heap.size _ h1.sl h1.one (by rw [hS.out];exact B)
 rw [hS.out]
 generalize fdV (fdI ys s)=R at *
 go_enter Tryz.func30,Tryz.ntmps30
 go_wp2_with fail
 refine kI.mono ?_
 rintro e w2 ⟨rfl,hf2⟩
 go_wp2
 go_ret
 exact ⟨rfl,hF.trans0 hf2⟩
theorem lsNames_calls (h:LstW w lb o v ys) (hl:ys.length≤1000):Calls Tryz.prog 13 #[.pointer (some ⟨lb,0,none⟩)] w fun e w'=>∃u,e=.returned u∧SlT w' u (ys.map fun y=>y.1.nm)∧(∀k,u.ownBlock=some k→w.heap.size≤k)∧Fr [] w w':=by
 obtain ⟨a,cap,rfl,_⟩:=SlF.open h.sl
 have c:=h.blk.cell
 go_enter Tryz.func13,Tryz.ntmps13
 go_wp2_with fail
 go_loopw [3,11] (fun u i wr=>∃k:Nat,k≤ys.length∧i=.int .i64 (k:Int)∧wr.ownsRow w.heap.size 9 1 u k (((ys.take k).map fun y=>y.1.nm).flatMap strC)∧Fr [] w wr) (fun _ i _=>ys.length - (intOf i).toNat)
 case atStart=>exact ⟨0,Nat.zero_le _,rfl,World.ownsRow_nil _ _ _ _,Fr.refl _ _⟩
 case round =>
 obtain ⟨k,hk,rfl,hown,hF⟩:=hrel
 by_cases hlt:k<ys.length
 case neg =>
  have hke:k=ys.length:=by omega
  have hown2:wr.ownsRow w.heap.size 9 1 u3 (ys.map fun y=>y.1.nm).length ((ys.map fun y=>y.1.nm).flatMap strC):=by
   rw [List.length_map]
   rw [hke,List.take_length] at hown
   exact hown
  have hlt':¬(k:Int)<(ys.length:Int):=by omega
  have hfin:=hidIt hown2
  clear hown2 hown
  go_wp2
  go_ret
  exact ⟨_,rfl,SlF.of_owns hfin.out,own_base hfin.out,hF⟩
 have hym:=getD_memB hlt zBv
 obtain ⟨b,off,rfl,hbb,d0,d1,d2,d3,d4⟩:=SlF.bkAt (SlF.fr0 h.sl hF) hlt
 obtain ⟨pa,pc,hpv,_⟩:=SlF.open (h.one _ hym).pcs.sl
 have htk:Hid (((ys.take (k+1)).map fun y=>y.1.nm).flatMap strC=((ys.take k).map fun y=>y.1.nm).flatMap strC++[strL (ys.getD k zBv).1.nm]):=hidIt (by
  rw [List.take_succ_eq_append_getElem hlt,List.getD_eq_getElem?_getD,List.getElem?_eq_getElem hlt,List.map_append,List.flatMap_append]
  rfl)
 rw [hpv] at d4
 generalize ys.getD k zBv=y at *
 obtain ⟨N,hN⟩:∃S,Hid (strL y.1.nm=Value.string S):=⟨_,hidIt rfl⟩
 obtain ⟨Q,hQ⟩:∃S,Hid (strL y.1.pa=Value.string S):=⟨_,hidIt rfl⟩
 rw [hN.out] at d0 htk
 rw [hQ.out] at d1
 generalize y.2.2.length=pl at *
 generalize y.1.n=yn at *
 have hz:=hF.size
 go_wp2_with (at_builtin;refine Hid.out ?_)
 refine hidIt ?_
 have hF1:=hF.alloc (.cells #[.string N,.string Q,.int .i64 1,.int .i64 (yn:Int),.slice pa pl pc] 60)
 have hone:∀u∈[Value.string N],u.oneCell'=true:=fun u hu=>by rw [List.mem_singleton.1 hu];rfl
 refine wpList_append1 27 9 _ 1 16 Tryz.underlying27 infoTxK rfl (by decide) (by decide) rfl _ _ rfl w.heap.size _ _ _ rfl ((hown.alloc _).alloc _) [.string N] rfl hone (wr.heap.size+1) rfl (Blk.new' (by simp) [.string N] _) (by omega) (by simp;omega) ?_
 intro v' w2 hown2 hgrow hloc
 have hF2:Fr [] w w2:=((hF.alloc _).alloc _).grown hgrow (fun y hy=>.inr (own_base hown y hy))
 rw [←htk.out] at hown2
 clear d0 d1 d2 d3 d4 htk hown hgrow hloc hF1
 go_wp2
 go_roundw
 case rel=>exact ⟨k+1,by omega,by go_num,hown2,hF2⟩
 case measure=>simp [intOf];omega
def lastN (ys:List Bkv):By:=match ys.getLast? with | some y=>y.1.nm | none=>[]
theorem lsLast_calls (h:LstW w lb o v ys):Calls Tryz.prog 55 #[.pointer (some ⟨lb,0,none⟩)] w fun e w'=>e=.returned (strL (lastN ys))∧Fr [] w w':=by
 obtain ⟨a,cap,rfl,hlc,hcm,_⟩:=SlF.open h.sl
 unfold maxLen at hcm
 have c:=h.blk.cell
 by_cases h0:ys.length=0
 case pos =>
  have:ys=[]:=List.eq_nil_of_length_eq_zero h0
  subst this
  simp only [List.length_nil] at c
  go_enter Tryz.func55,Tryz.ntmps55
  go_wp2
  go_ret
  exact ⟨rfl,Fr.refl _ _⟩
 have hn0:((ys.length:Int) == 0)=false:=by simpa using h0
 obtain ⟨m,hm⟩:∃m,Hid (m+1=ys.length):=⟨ys.length - 1,hidIt (by omega)⟩
 have hlt:m<ys.length:=by have:=hm.out;omega
 have hla:Hid (lastN ys=(ys.getD m zBv).1.nm):=hidIt (by
  unfold lastN
  rw [List.getLast?_eq_getElem?,show ys.length - 1=m by have:=hm.out;omega,List.getD_eq_getElem?_getD,List.getElem?_eq_getElem hlt]
  rfl)
 rw [hla.out]
 have hsub:(ys.length:Int) - 1=(m:Int):=by have:=hm.out;omega
 have hwr:IntKind.i64.wrap ((ys.length:Int) - 1)=(m:Int):=by rw [IntWalk.i64_in _ (by omega)];omega
 obtain ⟨b,off,rfl,hbb,d0,_⟩:=SlF.bkAt h.sl hlt
 obtain ⟨N,hN⟩:∃S,Hid (strL (ys.getD m zBv).1.nm=Value.string S):=⟨_,hidIt rfl⟩
 rw [hN.out] at d0 ⊢
 have hltI:(m:Int)<(ys.length:Int):=by omega
 clear hla
 go_enter Tryz.func55,Tryz.ntmps55
 go_wp2_with fail
 go_quiet (fail)
 go_wp2
 go_ret
 exact ⟨rfl,(Fr.refl [] w).drewN _⟩
end
def bvV (y:Bkv):Value:=.agg #[strL y.1.nm,strL y.1.pa,.int .i64 1,.int .i64 (y.1.n:Int),y.2.1]
section
variable {w w':World} {o:Nat→Prop} {lb:Nat} {v:Value} {ys:List Bkv}
theorem lsBytes_calls (N Q:ByteArray) (n:Int) (a:Option Addr) (l c:Nat) (w:World):Calls Tryz.prog 31 #[.agg #[.string N,.string Q,.int .i64 1,.int .i64 n,.slice a l c]] w fun e w'=>e=.returned (.int .i64 32)∧Fr [] w w':=by
 go_enter Tryz.func31,Tryz.ntmps31
 go_wp2
 go_ret
 exact ⟨rfl,(Fr.refl [] w).alloc _⟩
theorem unP_at {xs:List Pcv} {i:Nat} (hi:i<xs.length):((xs.getD i zPv).1,(xs.getD i zPv).2.1)∈unP xs:=by
 unfold unP
 rw [List.getD_eq_getElem?_getD,List.getElem?_eq_getElem hi]
 exact List.mem_map.2 ⟨_,List.getElem_mem hi,rfl⟩
theorem unP_len (xs:List Pcv):(unP xs).length=xs.length:=by simp [unP]
theorem unP_rise {xs:List Pcv} (h:(unP xs).Pairwise fun p q=>p.1<q.1) {i j:Nat} (hij:i<j) (hj:j<xs.length):(xs.getD i zPv).1<(xs.getD j zPv).1:=by
 unfold unP at h
 rw [List.pairwise_map] at h
 have:=List.pairwise_iff_getElem.1 h i j (by omega) hj hij
 rw [List.getD_eq_getElem?_getD,List.getElem?_eq_getElem (by omega),List.getD_eq_getElem?_getD,List.getElem?_eq_getElem hj]
 exact this
theorem lsRight_calls (y:Bkv) (w:World) (h:BakW w o y) (hg:GoodB y.1):Calls Tryz.prog 152 #[bvV y] w fun e w'=>e=.returned (.bool true)∧Fr [] w w':=by
 obtain ⟨a,cap,hpv,hlc,hcm,_⟩:=SlF.open h.pcs.sl
 have hn:=hg.n
 have hsl:=h.pcs.sl
 have hby:=h.pcs.byt
 have hup:=hg.up
 have hins:=hg.ins
 have hall:=hg.all
 rw [h.ps] at hup hins hall
 have hplen:=hg.plen
 rw [h.ps,unP_len] at hplen
 rw [unP_len] at hall
 have kR:=fun X=>nRight_calls y.1.nm X
 rw [hg.nm] at kR
 unfold bvV
 rw [hpv] at hsl ⊢
 obtain ⟨N,hN⟩:∃S,Hid (strL y.1.nm=Value.string S):=⟨_,hidIt rfl⟩
 obtain ⟨Q,hQ⟩:∃S,Hid (strL y.1.pa=Value.string S):=⟨_,hidIt rfl⟩
 have he:Value.string ⟨#[]⟩=strL []:=rfl
 have hq:binOp .neq 9 (.string Q) (strL [])=pure (.bool (!decide (y.1.pa=[]))):=by rw [←hQ.out,neq_str]
 have hgd:∀(op:BinOp) (x y':Operand) (w:World),(eqGuard op 9 x y' (.string Q) (strL [])).run Tryz.prog w=.ok () w:=fun op x y' w=>by rw [←hQ.out];exact guard_str _ _ _ _ _ _
 rw [hN.out] at kR ⊢
 rw [hQ.out]
 have hh:=hidIt (And.intro hup (And.intro hins hall))
 clear hup hins hall h hg hpv
 generalize y.1.n=n at *
 generalize hxs:y.2.2=xs at *
 clear hxs
 have hn1:¬(256:Int)<(n:Int):=by omega
 have hn0:¬(n:Int)<0:=by omega
 obtain ⟨W0,hW0⟩:∃W0,Hid (w.alloc (Obj.cells #[.string N,.string Q,.int .i64 1,.int .i64 (n:Int),.slice a xs.length cap] 60)=W0):=⟨_,hidIt rfl⟩
 obtain ⟨bb,hbb⟩:∃y,Hid (w.heap.size=y):=⟨_,hidIt rfl⟩
 have hF0:Fr [] w W0:=by rw [←hW0.out];exact (Fr.refl [] w).alloc _
 have B0:Blk W0 bb [.string N,.string Q,.int .i64 1,.int .i64 (n:Int),.slice a xs.length cap] 60:=by
  rw [←hW0.out]
  exact Blk.new' hbb.out.symm [.string N,.string Q,.int .i64 1,.int .i64 (n:Int),.slice a xs.length cap] _
 go_enter Tryz.func152,Tryz.ntmps152
 rw [he]
 go_wp2_with fail
 rw [hW0.out,hbb.out]
 refine (kR _).mono ?_
 rintro e w1 ⟨rfl,hf1⟩
 clear kR
 have hF1:=hF0.trans0 hf1
 have B1:=B0.fr0 hf1
 have c1:=B1.cell
 clear hW0 hbb B0 hF0 hf1
 go_wp2_with fail
 go_loopw [3,33] (fun la i wr=>∃(k:Nat) (z:Int),k≤xs.length∧i=.int .i64 (k:Int)∧la=.int .i64 z∧Fr [] w1 wr∧Hid (∀j,k≤j→j<xs.length→z<((xs.getD j zPv).1:Int))) (fun _ i _=>xs.length - (intOf i).toNat)
 case atStart=>exact ⟨0,-1,Nat.zero_le _,rfl,rfl,Fr.refl _ _,hidIt (fun j _ _=>by omega)⟩
 case round =>
 obtain ⟨k,z,hk,rfl,rfl,hF,hz⟩:=hrel
 have B2:=B1.fr0 hF
 have c2:=B2.cell
 by_cases hlt:k<xs.length
 case neg =>
  have hlt':¬(k:Int)<(xs.length:Int):=by omega
  have hFw:=hF1.trans0 hF
  cases hpd:decide (y.1.pa=[]) with
  | false =>
    rw [hpd] at hq
    clear hpd hz hh
    go_wp2
    go_ret
    exact ⟨rfl,hFw⟩
  | true =>
    rw [hpd] at hq
    have hxn:((xs.length:Int) == (n:Int))=true:=by
     rcases hh.out.2.2 with h1 | h1
     ·exact absurd (of_decide_eq_true hpd) h1
     ·simp [h1]
    clear hpd hz hh
    go_wp2
    go_ret
    exact ⟨rfl,hFw⟩
 obtain ⟨b,off,rfl,hbb2,d0,d1⟩:=SlF.pcAt (SlF.fr0 hsl (hF1.trans0 hF)) hlt
 have hxm:=getD_memB hlt zPv
 have hi2:=hh.out.2.1 _ (unP_at hlt)
 obtain ⟨ba,bc,hbv,_⟩:=SlF.open (hby _ hxm).1
 have hzk:=hz.out k (Nat.le_refl _) hlt
 have hnx:Hid (∀j,k+1≤j→j<xs.length→((xs.getD k zPv).1:Int)<((xs.getD j zPv).1:Int)):=hidIt (fun j h1 h2=>by have:=unP_rise hh.out.1 (i:=k) (j:=j) (by omega) h2;omega)
 clear hz
 rw [hbv] at d1
 simp only at hi2
 rw [hi2.2] at d1
 generalize (xs.getD k zPv).1=C at *
 have hC1:¬(C:Int)≤z:=by omega
 have hC2:¬(n:Int)≤(C:Int):=by omega
 have hC3:C<n:=hi2.1
 have hfa:=(Fr.refl [] wr).alloc (.cells #[.int .i64 (C:Int),.slice ba 32 bc] 71)
 have P3:=Blk.new wr [.int .i64 (C:Int),.slice ba 32 bc] 71
 have B3:=B2.fr0 hfa
 have P3d:=P3.drew
 have B3d:=B3.drew
 have hFd:=(hF.trans0 hfa).drew
 clear hi2 hbv hzk c2 B2 P3 B3
 go_wp2_with fail
 generalize wr.alloc (.cells #[.int .i64 (C:Int),.slice ba 32 bc] 71)=W3 at *
 refine wp_region_G (fun X=>Fr [] W3.drew X) [(true,0),(true,1),(true,2),(true,3),(true,4),(true,5),(true,6),(true,7),(true,8),(true,9),(true,10),(true,11),(true,12),(true,13),(true,14),(true,15),(false,16),(true,17),(true,18)] (by as_aux_lemma=>kernel_rfl) (by as_aux_lemma=>kernel_rfl) (Fr.refl _ _) ?_
 simp only [inOrder,jD,jE,jF,jG]
 iterate 1 (refine wpG_pure fun K hK=>?_;go_simp;refine hK _ ?_;clear hK K)
 refine wpG_val (.int .i64 (C:Int)) (by first | rfl | go_simp) (fun X hX=>by have cc:=(P3d.fr0 hX).cell;go_simp) ?_
 simp only [Act.put,jA,jB,jC]
 iterate 4 (refine wpG_pure fun K hK=>?_;go_simp;refine hK _ ?_;clear hK K)
 refine wpG_val (.int .i64 (C:Int)) (by first | rfl | go_simp) (fun X hX=>by have cc:=(P3d.fr0 hX).cell;go_simp) ?_
 simp only [Act.put,jA,jB,jC]
 iterate 1 (refine wpG_pure fun K hK=>?_;go_simp;refine hK _ ?_;clear hK K)
 refine wpG_val (.int .i64 (n:Int)) (by first | rfl | go_simp) (fun X hX=>by have cc:=(B3d.fr0 hX).cell;go_simp) ?_
 simp only [Act.put,jA,jB,jC]
 iterate 4 (refine wpG_pure fun K hK=>?_;go_simp;refine hK _ ?_;clear hK K)
 refine wpG_val (.slice ba 32 bc) (by first | rfl | go_simp) (fun X hX=>by have cc:=(P3d.fr0 hX).cell;go_simp) ?_
 simp only [Act.put,jA,jB,jC]
 iterate 1 (refine wpG_pure fun K hK=>?_;go_simp;refine hK _ ?_;clear hK K)
 refine wpG_val (.agg #[.string N,.string Q,.int .i64 1,.int .i64 (n:Int),.slice (some ⟨b,off,none⟩) xs.length cap]) (by first | rfl | go_simp) (fun X hX=>by have cc:=(B3d.fr0 hX).cell;go_simp) ?_
 simp only [Act.put,jA,jB,jC]
 refine wpG_one fun K hK=>?_
 go_simp
 refine (lsBytes_calls N Q (n:Int) _ _ _ _).mono ?_
 rintro e w4 ⟨rfl,hf4⟩
 refine hK _ _ (hf4) ?_
 clear hK K
 iterate 2 (refine wpG_pure fun K hK=>?_;go_simp;refine hK _ ?_;clear hK K)
 refine wpG_end ?_
 have P4:=P3d.fr0 hf4
 have c4:=P4.cell
 clear d0 d1
 go_wp2
 go_roundw
 case rel=>exact ⟨k+1,(C:Int),by omega,by go_num,rfl,hFd.trans0 hf4,hnx⟩
 case measure=>simp [intOf];omega
end
end Go.Proofs.YtffnihooekbcnaaGreat
