/-
  Bits as bytes, in plain Lean: what is read of the bytes of bits are the bits.
-/
import Derived.Test.YtffnihooekbcnaaGreatG00
import Derived.Test.YtffnihooekbcnaaGreatG02
import Derived.Test.YtffnihooekbcnaaGreatG29
set_option maxRecDepth 100000
set_option maxHeartbeats 6400000
namespace Go.Proofs.YtffnihooekbcnaaGreat
open Go.RowKit
def valB (f:Nat→Bool):Nat→Nat
 | 0=>0
 | k+1=>valB f k+(if f k then 2 ^ k else 0)
theorem valB_lt (f:Nat→Bool):∀k,valB f k<2 ^ k
 | 0=>by simp [valB]
 | k+1=>by
   have:=valB_lt f k
   unfold valB
   rw [Nat.pow_succ]
   split <;> omega
theorem valB_succ (f:Nat→Bool):∀k,valB f (k+1)=(if f 0 then 1 else 0)+2*valB (fun i=>f (i+1)) k
 | 0=>by simp [valB]
 | k+1=>by
   have ih:=valB_succ f k
   have e:valB f (k+1+1)=valB f (k+1)+(if f (k+1) then 2 ^ (k+1) else 0):=rfl
   have e2:valB (fun i=>f (i+1)) (k+1)=valB (fun i=>f (i+1)) k+(if f (k+1) then 2 ^ k else 0):=rfl
   rw [e,ih,e2,Nat.pow_succ]
   cases f (k+1)
   ·simp
   ·simp only [if_true]
    omega
theorem valB_bit:∀(m:Nat) (f:Nat→Bool) (k:Nat),k<m→(valB f m / 2 ^ k % 2 == 1)=f k
 | m+1,f,0,_=>by
   rw [valB_succ]
   cases h:f 0
   ·simp
   ·simp only [if_true,Nat.pow_zero,Nat.div_one]
    have:(1+2*valB (fun i=>f (i+1)) m) % 2=1:=by omega
    rw [this];rfl
 | m+1,f,k+1,h=>by
   have e:valB f (m+1) / 2 ^ (k+1)=valB (fun i=>f (i+1)) m / 2 ^ k:=by
    rw [Nat.pow_succ,Nat.mul_comm,←Nat.div_div_eq_div_mul,valB_succ]
    congr 1
    split <;> omega
   rw [e]
   exact valB_bit m (fun i=>f (i+1)) k (by omega)
theorem valB_of:∀(m b:Nat),b<2 ^ m→valB (fun i=>b / 2 ^ i % 2 == 1) m=b
 | 0,b,h=>by simp at h;subst h;rfl
 | m+1,b,h=>by
   rw [valB_succ]
   have e:(fun i=>b / 2 ^ (i+1) % 2 == 1)=(fun i=>b / 2 / 2 ^ i % 2 == 1):=by
    funext i
    rw [Nat.pow_succ,Nat.mul_comm,Nat.div_div_eq_div_mul]
   rw [e,valB_of m (b / 2) (by rw [Nat.pow_succ] at h;omega)]
   simp only [Nat.pow_zero,Nat.div_one]
   by_cases h2:b % 2=1
   ·simp only [h2]
    simp
    omega
   ·have h0:b % 2=0:=by omega
    simp only [h0]
    simp
    omega
theorem valB_congr {f g:Nat→Bool}:∀{m:Nat},(∀k,k<m→f k=g k)→valB f m=valB g m
 | 0,_=>rfl
 | m+1,h=>by
   unfold valB
   rw [valB_congr (fun k hk=>h k (by omega)),h m (by omega)]
def byF (l:List Bool) (j:Nat):Nat→Bool:=fun k=>l.getD (8*j+k) false
def byV (l:List Bool) (j:Nat):Nat:=valB (byF l j) 8
def nbB (n:Nat):Nat:=(n+7) / 8
def bodyB (l:List Bool) (m:Nat):List UInt8:=(List.range m).map fun j=>UInt8.ofNat (byV l j)
theorem bodyB_length (l:List Bool) (m:Nat):(bodyB l m).length=m:=by simp [bodyB]
theorem bodyB_succ (l:List Bool) (m:Nat):bodyB l (m+1)=bodyB l m++[UInt8.ofNat (byV l m)]:=by simp [bodyB,List.range_succ]
theorem byV_lt (l:List Bool) (j:Nat):byV l j<256:=valB_lt _ 8
theorem bodyB_getD {l:List Bool} {m j:Nat} (h:j<m):((bodyB l m).getD j 0).toNat=byV l j:=by
 rw [List.getD_eq_getElem?_getD,List.getElem?_eq_getElem (by rw [bodyB_length];exact h)]
 simp only [bodyB,List.getElem_map,List.getElem_range,Option.getD_some]
 rw [ofNat_toNat,Nat.mod_eq_of_lt (byV_lt l j)]
def encB (S g:Nat) (l:List Bool):List UInt8:=numL 2 S++numL 1 g++bodyB l (nbB l.length)
theorem encB_length (S g:Nat) (l:List Bool):(encB S g l).length=3+nbB l.length:=by
 unfold encB
 rw [List.length_append,List.length_append,numL_length,numL_length,bodyB_length]
def goodB (S g:Nat) (l:List Bool):Prop:=S≤4096∧pow2 (g:Int)=true∧l.length=gran S g
def bitB (bs:List UInt8) (i:Nat):Bool:=(bs.getD (3+i / 8) 0).toNat / 2 ^ (i % 8) % 2 == 1
def decL (bs:List UInt8) (n:Nat):List Bool:=(List.range n).map (bitB bs)
theorem decL_length (bs:List UInt8) (n:Nat):(decL bs n).length=n:=by simp [decL]
theorem decL_getD (bs:List UInt8) (n i:Nat):(decL bs n).getD i false=(decide (i<n) && bitB bs i):=by
 rw [List.getD_eq_getElem?_getD]
 by_cases h:i<n
 ·rw [List.getElem?_eq_getElem (by rw [decL_length];exact h)]
  simp [decL,h]
 ·rw [List.getElem?_eq_none (by rw [decL_length];omega)]
  simp [h]
theorem encB_byte {S g:Nat} {l:List Bool} {j:Nat} (h:j<nbB l.length):((encB S g l).getD (3+j) 0).toNat=byV l j:=by
 unfold encB
 rw [List.getD_eq_getElem?_getD,List.getElem?_append_right (by rw [List.length_append,numL_length,numL_length];omega),List.length_append,numL_length,numL_length,show 3+j - (2+1)=j by omega,←List.getD_eq_getElem?_getD]
 exact bodyB_getD h
theorem encB_bit {S g:Nat} {l:List Bool} {i:Nat} (h:i / 8<nbB l.length):bitB (encB S g l) i=l.getD i false:=by
 unfold bitB
 rw [encB_byte h]
 unfold byV
 rw [valB_bit 8 _ _ (Nat.mod_lt _ (by omega))]
 unfold byF
 congr 1
 omega
theorem encB_dec {S g:Nat} {l:List Bool}:decL (encB S g l) l.length=l:=by
 apply List.ext_getElem
 ·rw [decL_length]
 ·intro i h1 h2
  have e1:=decL_getD (encB S g l) l.length i
  rw [List.getD_eq_getElem?_getD,List.getElem?_eq_getElem h1,encB_bit (by unfold nbB;omega),List.getD_eq_getElem?_getD,List.getElem?_eq_getElem h2] at e1
  simpa [h2] using e1
theorem goodB_small {S g:Nat} {l:List Bool} (h:goodB S g l):S<65536∧1≤g∧g≤64∧l.length≤4096:=by
 obtain ⟨h1,h2,h3⟩:=h
 have h4:=pow2_le h2
 refine ⟨by omega,by omega,by omega,?_⟩
 rw [h3]
 exact gran_le h1 (by omega)
theorem encB_S {S g:Nat} {l:List Bool} (h:S<65536):valL ((encB S g l).take 2)=S:=by
 unfold encB
 rw [List.append_assoc,List.take_append_of_le_length (by rw [numL_length];exact Nat.le_refl _),List.take_of_length_le (by rw [numL_length];exact Nat.le_refl _),valL_numL]
 exact Nat.mod_eq_of_lt h
theorem encB_g {S g:Nat} {l:List Bool} (h:g<256):valL (((encB S g l).drop 2).take 1)=g:=by
 unfold encB
 rw [List.append_assoc,List.drop_append_of_le_length (by rw [numL_length];exact Nat.le_refl _),List.drop_of_length_le (by rw [numL_length];exact Nat.le_refl _),List.nil_append,
  List.take_append_of_le_length (by rw [numL_length];exact Nat.le_refl _),List.take_of_length_le (by rw [numL_length];exact Nat.le_refl _),valL_numL]
 exact Nat.mod_eq_of_lt h
theorem encB_inj {S g S' g':Nat} {l l':List Bool} (h:goodB S g l) (h':goodB S' g' l') (e:encB S g l=encB S' g' l'):S=S'∧g=g'∧l=l':=by
 obtain ⟨a1,a2,a3,a4⟩:=goodB_small h
 obtain ⟨b1,b2,b3,b4⟩:=goodB_small h'
 have e1:S=S':=by rw [←encB_S (g:=g) (l:=l) a1,e,encB_S b1]
 have e2:g=g':=by rw [←encB_g (S:=S) (g:=g) (l:=l) (by omega),e,encB_g (by omega)]
 subst e1;subst e2
 have e3:l.length=l'.length:=h.2.2.trans h'.2.2.symm
 refine ⟨rfl,rfl,?_⟩
 rw [←encB_dec (S:=S) (g:=g) (l:=l),e,e3,encB_dec]
theorem encB_of {bs:List UInt8} {S g:Nat} (hS:valL (bs.take 2)=S) (hg:valL ((bs.drop 2).take 1)=g) (hl:bs.length=3+nbB (gran S g)) (h0:∀i,gran S g≤i→i / 8<nbB (gran S g)→bitB bs i=false) :
 encB S g (decL bs (gran S g))=bs:=by
 have hb:bs=bs.take 2++((bs.drop 2).take 1++bs.drop 3):=by
  have e1:(bs.drop 2).take 1++bs.drop 3=bs.drop 2:=by
   have:=List.take_append_drop 1 (bs.drop 2)
   rwa [List.drop_drop] at this
  rw [e1,List.take_append_drop]
 have e1:numL 2 S=bs.take 2:=by
  rw [←hS]
  have:=numL_valL (bs.take 2)
  rwa [show (bs.take 2).length=2 by rw [List.length_take];omega] at this
 have e2:numL 1 g=(bs.drop 2).take 1:=by
  rw [←hg]
  have:=numL_valL ((bs.drop 2).take 1)
  rwa [show ((bs.drop 2).take 1).length=1 by rw [List.length_take,List.length_drop];omega] at this
 have e3:bodyB (decL bs (gran S g)) (nbB (decL bs (gran S g)).length)=bs.drop 3:=by
  rw [decL_length]
  apply List.ext_getElem
  ·rw [bodyB_length,List.length_drop];omega
  ·intro j h1 h2
   have hj:j<nbB (gran S g):=by rw [bodyB_length] at h1;exact h1
   apply UInt8.toNat_inj.1
   have e4:=bodyB_getD (l:=decL bs (gran S g)) hj
   rw [List.getD_eq_getElem?_getD,List.getElem?_eq_getElem h1,Option.getD_some] at e4
   rw [e4,List.getElem_drop]
   have e5:bs[3+j]'(by omega)=bs.getD (3+j) 0:=by rw [List.getD_eq_getElem?_getD,List.getElem?_eq_getElem (by omega)];rfl
   rw [e5]
   have hb:(bs.getD (3+j) 0).toNat<2 ^ 8:=(bs.getD (3+j) 0).toNat_lt
   rw [←valB_of 8 _ hb]
   unfold byV
   apply valB_congr
   intro k hk
   unfold byF
   rw [decL_getD]
   have e6:bitB bs (8*j+k)=((bs.getD (3+j) 0).toNat / 2 ^ k % 2 == 1):=by
    unfold bitB
    rw [show (8*j+k) / 8=j by omega,show (8*j+k) % 8=k by omega]
   by_cases hi:8*j+k<gran S g
   ·rw [decide_eq_true hi,Bool.true_and,e6]
   ·rw [decide_eq_false hi,Bool.false_and,←e6,h0 _ (by omega) (by rw [show (8*j+k) / 8=j by omega];exact hj)]
 unfold encB
 rw [e1,e2,e3,List.append_assoc]
 exact hb.symm
end Go.Proofs.YtffnihooekbcnaaGreat
namespace Go.Proofs.YtffnihooekbcnaaGreat
open Go.RowKit Go.Maps
def bn (b:Bool):Nat:=if b=true then 1 else 0
theorem bn_lt (b:Bool):bn b<256 ^ 1:=by cases b <;> decide
def encE (clean:Bool) (x:Ent):List UInt8:=numL 1 x.name.length++(x.name++(numL 1 (bn x.on)++(numL 1 (bn (x.use && clean))++(numL 2 (encB x.S x.g x.l).length++encB x.S x.g x.l))))
def encD (E:List Ent) (clean:Bool):List UInt8:=numL 1 E.length++E.flatMap (encE clean)
theorem nbB_le {n:Nat} (h:n≤4096):nbB n≤512:=by unfold nbB;omega
theorem OkE.g {x:Ent} (h:OkE x):0<x.g∧x.g≤64:=by have:=pow2_le h.pow;omega
theorem OkE.short {x:Ent} (h:OkE x):(encB x.S x.g x.l).length≤515:=by
 rw [encB_length,h.len]
 have:=nbB_le (gran_le h.size h.g.1)
 omega
theorem encE_len {x:Ent} (h:OkE x) (clean:Bool):(encE clean x).length≤535:=by
 have:=h.short
 have:=okName_len h.name
 simp only [encE,List.length_append,numL_length]
 omega
theorem encD_flat_len {E:List Ent} (h:∀x∈E,OkE x) (clean:Bool):(E.flatMap (encE clean)).length≤E.length*535:=by
 induction E with
 | nil=>simp
 | cons x l ih =>
   have h1:=encE_len (h x List.mem_cons_self) clean
   have h2:=ih fun y hy=>h y (List.mem_cons_of_mem _ hy)
   rw [List.flatMap_cons,List.length_append,List.length_cons]
   omega
theorem encD_len {E:List Ent} (h:OkD E) (clean:Bool):(encD E clean).length≤5000:=by
 have h1:=encD_flat_len h.all clean
 have h2:=h.few
 unfold encD
 rw [List.length_append,numL_length]
 omega
theorem rdNum_of {W n:Nat} (r:List UInt8) (h:n<256 ^ W):rdNum (numL W n++r) 0 W=(r,0,n):=by
 have hl:=numL_length W n
 unfold rdNum
 rw [if_neg (by simp),if_neg (by rw [List.length_append,hl];omega),List.drop_left' hl,List.take_left' hl,valL_numL,Nat.mod_eq_of_lt h]
theorem rdText_of {W:Nat} (s r:List UInt8) (h:s.length<256 ^ W):rdText (numL W s.length++(s++r)) 0 W=(r,0,s):=by
 unfold rdText
 rw [rdNum_of _ h]
 simp [rdTake]
 omega
end Go.Proofs.YtffnihooekbcnaaGreat
namespace Go.Proofs.YtffnihooekbcnaaGreat
open Go.RowKit Go.Maps
attribute [local go_sem] mapAt_alloc mapAt_setCell mapAt_drew mapAt_drewN
theorem or_bit (V k:Nat) (hk:k<8) (hV:V<2 ^ k):bits .or .u8 (V:Int) ((2:Int) ^ k % 256)=((V+2 ^ k:Nat):Int):=by
 have hk2:2 ^ k≤128:=Nat.le_trans (Nat.pow_le_pow_right (by omega) (by omega:k≤7)) (by decide)
 have e0:(2:Int) ^ k % 256=((2 ^ k:Nat):Int):=by
  rw [show (2:Int) ^ k=((2 ^ k:Nat):Int) from (Int.natCast_pow 2 k).symm]
  omega
 rw [e0]
 have e1:(BitVec.ofInt 8 (V:Int)).toNat=V:=by rw [BitVec.toNat_ofInt];omega
 have e2:(BitVec.ofInt 8 ((2 ^ k:Nat):Int)).toNat=2 ^ k:=by rw [BitVec.toNat_ofInt];omega
 have e3:V ||| 2 ^ k=V+2 ^ k:=by
  have:=Nat.two_pow_add_eq_or_of_lt hV 1
  rw [Nat.mul_one] at this
  rw [Nat.or_comm,←this,Nat.add_comm]
 show IntKind.u8.wrap ((BitVec.ofInt 8 (V:Int) ||| BitVec.ofInt 8 ((2 ^ k:Nat):Int)).toNat:Int)=_
 rw [BitVec.toNat_or,e1,e2,e3]
 generalize 2 ^ k=D at *
 simp [IntKind.wrap,IntKind.signed,IntKind.bits]
 omega
theorem EncodeB_calls (tb mb S g:Nat) (l:List Bool) (w:World) (h:BitW w tb mb S g l):Calls Tryz.prog 117 #[.pointer (some ⟨tb,0,none⟩)] w
 fun e w'=>∃u,e=.returned u∧w'.ownsRow w.heap.size 5 1 u (encB S g l).length ((encB S g l).flatMap byC)∧Fr [] w w':=by
 have hS:=h.size
 have hg:=h.grain
 have hle:=gran_le h.size h.grain.1
 have hlen:=hidIt h.len
 obtain ⟨hlt,hmlt⟩:=h.lt
 have c:=h.blk.cell
 have Henc:Hid (encB S g l=(numL 2 S++numL 1 g)++bodyB l (nbB (gran S g))):=hidIt (by unfold encB;rw [hlen.out])
 go_enter Tryz.func117,Tryz.ntmps117
 go_wp2_with fail
 refine (Put_calls 2 (by omega) [S] (by intro x hx;have:=List.mem_singleton.1 hx;subst this;(show _<65536);omega) w.heap.size _ [] w.heap.size 1 _ (World.ownsRow_nil _ _ _ _) (by simp) (by simp) (Blk.new w [_] _) (by simp [Value.ownBlock])).mono ?_
 rintro e w1 ⟨v1,rfl,hown1,hf1,hob1⟩
 have hF1:Fr [] w w1:=((Fr.refl [] w).alloc (.cells #[.int .i64 S] 3)).trans hf1 (by simp [Value.ownBlock])
 have h1:=h.fr0 hF1
 have c1:=h1.blk.cell
 have hlt1:=h1.lt
 have hb1:=own_base hown1
 have hsz1:=hF1.size
 clear c hob1
 go_wp2_with fail
 refine (Put_calls 1 (by omega) [g] (by intro x hx;have:=List.mem_singleton.1 hx;subst this;(show _<256);omega) w.heap.size _ _ w1.heap.size 1 _ (hown1.alloc _) (by simp [numL_length]) (by simp;omega) (Blk.new w1 [_] _) (fun k hk e=>by have:=(hown1.lt k hk).2;omega)).mono ?_
 rintro e w2 ⟨v2,rfl,hown2,hf2,hob2⟩
 have hF2:Fr [] w w2:=(hF1.alloc (.cells #[.int .i64 g] 3)).trans hf2 (fun x hx hl=>by have:=hb1 x (by simpa using hx);omega)
 have hW2:=h.fr0 hF2
 have epre:([]:List UInt8)++[S].flatMap (numL 2)++[g].flatMap (numL 1)=numL 2 S++numL 1 g:=by simp
 rw [epre] at hown2
 have hpl:(numL 2 S++numL 1 g).length=3:=by simp [numL_length]
 generalize numL 2 S++numL 1 g=pre at *
 clear hf1 hf2 hb1 h1 c1 hown1 hF1 hsz1 hlt1 hlt hmlt hob2 epre
 go_wp2_with fail
 go_loopw [3,5] (fun v i wr=>∃(k:Nat),k≤nbB (gran S g)∧i=.int .i64 ((8*k:Nat):Int)∧wr.ownsRow w.heap.size 5 1 v (pre++bodyB l k).length ((pre++bodyB l k).flatMap byC)∧Fr [] w wr) (fun _ i _=>10000 - (intOf i).toNat)
 case atStart=>exact ⟨0,Nat.zero_le _,rfl,by simpa [bodyB] using hown2,hF2⟩
 case round =>
  obtain ⟨k,hk,rfl,hown,hF⟩:=hrel
  have hW:=h.fr0 hF
  have hkn:k≤600:=by unfold nbB at hk;omega
  have hbl:=bodyB_length l k
  have hol:(pre++bodyB l k).length≤1000:=by rw [List.length_append];omega
  have Hst:=hidIt (bodyB_succ l k)
  have Hbv:Hid (byV l k=valB (byF l k) 8):=hidIt rfl
  have Hv0:Hid (valB (byF l k) 0=0):=hidIt rfl
  have Hvs:∀jj,Hid (valB (byF l k) (jj+1)=valB (byF l k) jj+(if l.getD (8*k+jj) false then 2 ^ jj else 0)):=fun jj=>hidIt rfl
  have Hvl:=fun jj=>hidIt (valB_lt (byF l k) jj)
  clear hbl
  generalize hBk:bodyB l k=Bk at *
  replace hBk:=hidIt hBk
  generalize valB (byF l k)=VB at *
  go_wp2_with fail
  refine (granules_calls tb mb S g l _ hW).mono ?_
  rintro e w3 ⟨rfl,hf3⟩
  have hF3:=hF.trans0 hf3
  replace hown:=owns_fr hown hf3 (by simp)
  have hW3:=h.fr0 hF3
  have c:=hW3.blk.cell
  obtain ⟨es,clock,hm,hi⟩:=hW3.map
  clear hW hF hf3 hW2 hF2 hown2
  by_cases hlt:8*k<gran S g
  ·go_wp2_with fail
   go_loopw [6,7,33] (fun x _ j wr=>wr=w3∧∃(jj:Nat),x=.int .u8 ((VB jj:Nat):Int)∧jj≤8∧j=.int .i64 (jj:Int)) (fun _ _ j _=>8 - (intOf j).toNat)
   case atStart=>exact ⟨rfl,0,by rw [Hv0.out];rfl,by omega,rfl⟩
   case round =>
    obtain ⟨rfl,jj,rfl,hj,rfl⟩:=hrel
    by_cases hj8:jj<8
    ·have hlook:∀W,mapAt W mb=some (es,clock)→(Instr.lookup 138 (.map (some mb)) (.int .i64 (8*(k:Int)+(jj:Int))) false).run Tryz.prog W=.ok (.int .i64 (if l.getD (8*k+jj) false=true then 1 else 0)) W:=fun W hW=>by
      have e:8*(k:Int)+(jj:Int)=((8*k+jj:Nat):Int):=by simp
      rw [e]
      exact look_bit hi hW (8*k+jj) (by omega)
     have hvs:=Hvs jj
     have hvl:=Hvl jj
     clear Hvs Hvl Hv0
     generalize l.getD (8*k+jj) false=q at *
     clear hown hW3 hi
     cases q
     ·go_wp2
      go_roundw
      case rel=>exact ⟨trivial,jj+1,by rw [hvs.out];simp,by omega,by go_num⟩
      case measure=>simp [intOf];omega
     ·go_wp2
      rw [or_bit _ _ hj8 hvl.out]
      go_roundw
      case rel=>exact ⟨trivial,jj+1,by rw [hvs.out];simp,by omega,by go_num⟩
      case measure=>simp [intOf];omega
    ·have hj8:jj=8:=by omega
     subst hj8
     have hob:=own_base hown
     have hsz:=hF3.size
     have hv8:VB 8<256:=(Hvl 8).out
     have Hcell:Hid (([.int .u8 ((VB 8:Nat):Int)]:List Value)=byC (UInt8.ofNat (byV l k))):=hidIt (by
      rw [byC,ofNat_toNat,Hbv.out,Nat.mod_eq_of_lt hv8])
     clear hm hi c Hvs Hvl Hv0
     generalize VB 8=V8 at *
     go_wp2_with (at_builtin;refine Hid.out ?_)
     refine hidIt ?_
     refine wpList_append1 31 5 (.int .u8 0) 1 1 Tryz.underlying31 infoY rfl (by decide) (by decide) rfl _ _ rfl w.heap.size _ _ _ rfl (hown.alloc _) [.int .u8 ((V8:Nat):Int)] rfl (by intro u hu;simp at hu;subst hu;rfl) wr.heap.size rfl (Blk.new _ _ _) (by omega) (by simp;omega) ?_
     intro v4 w4 hown4 hgrow4 hloc4
     rw [Hcell.out] at hown4
     have e1:(pre++bodyB l (k+1)).flatMap byC=(pre++Bk).flatMap byC++byC (UInt8.ofNat (byV l k)):=by rw [Hst.out];simp
     have e2:(pre++bodyB l (k+1)).length=(pre++Bk).length+1:=by rw [Hst.out];simp;omega
     rw [←e1,←e2] at hown4
     have hF4:=(hF3.alloc (.cells #[.int .u8 ((V8:Nat):Int)] 5)).grown hgrow4 (fun x hx=>.inr (hob x hx))
     clear e1 e2
     go_wp2
     go_roundw
     case rel=>exact ⟨k+1,by unfold nbB;omega,by go_num,hown4,hF4⟩
     case measure=>simp [intOf];omega
  ·have hke:Hid (k=nbB (gran S g)):=hidIt (by unfold nbB at hk ⊢;omega)
   clear hm hi
   go_wp2
   go_ret
   refine ⟨_,rfl,?_,hF3⟩
   rw [Henc.out,←hke.out]
   rw [hBk.out]
   exact hown
theorem one_calls (b:Bool) (w:World):Calls Tryz.prog 116 #[.bool b] w fun e w'=>e=.returned (.int .i64 (bn b:Int))∧w'=w:=by
 cases b with
 | false =>
   go_enter Tryz.func116,Tryz.ntmps116
   go_wp2
   go_ret
   exact ⟨rfl,rfl⟩
 | true =>
   go_enter Tryz.func116,Tryz.ntmps116
   go_wp2
   go_ret
   exact ⟨rfl,rfl⟩
theorem EntW.fr0' {w0 w w':World} {db mb:Nat} {L:List Cel} {c:Cel} (h:EntW w c) (_:Fr [] w0 w) (hf:Fr [] w w') (_:DirW w0 db mb L) (_:c∈L):EntW w' c:=h.fr hf (fun _ _ h=>by cases h)
theorem take_encE {L:List Cel} {k:Nat} (clean:Bool) (hk:k<L.length):(L.take (k+1)).flatMap (fun c=>encE clean c.x)=(L.take k).flatMap (fun c=>encE clean c.x)++encE clean (L[k]'hk).x:=by
 rw [List.take_succ_eq_append_getElem hk,List.flatMap_append]
 simp
theorem dEncode_calls (db mb:Nat) (L:List Cel) (clean:Bool) (w:World) (h:DirW w db mb L) :
 Calls Tryz.prog 62 #[.pointer (some ⟨db,0,none⟩),.bool clean] w fun e w'=>∃v,e=.returned v∧w'.ownsRow w.heap.size 5 1 v (encD (L.map (·.x)) clean).length ((encD (L.map (·.x)) clean).flatMap byC)∧Fr [] w w':=by
 have c0:=h.blk.cell 0
 obtain ⟨es,clock,hm,hi⟩:=h.map
 have hsz:=DirW.size h.rising hi
 have hlen:=fun ty=>run_len_map (P:=Tryz.prog) (ty:=ty) Tryz.underlying125 w hm
 have h8:=h.few
 rw [hsz] at hlen
 have hok:=h.ok
 have hEq:encD (L.map (·.x)) clean=numL 1 L.length++L.flatMap (fun c=>encE clean c.x):=by unfold encD;rw [List.length_map,List.flatMap_map]
 have HlenE:=hidIt fun k=>encD_flat_len (E:=(L.take k).map (·.x)) (fun x hx=>by
  obtain ⟨c,hc,rfl⟩:=List.mem_map.1 hx
  exact hok.all _ (List.mem_map.2 ⟨c,List.mem_of_mem_take hc,rfl⟩)) clean
 rw [hEq]
 clear hsz hEq hok
 go_enter Tryz.func62,Tryz.ntmps62
 go_wp2_with fail
 refine (Put_calls 1 (by omega) [L.length] (by intro x hx;have:=List.mem_singleton.1 hx;subst this;(show _<256);omega) w.heap.size _ [] w.heap.size 1 _ (World.ownsRow_nil _ _ _ _) (by simp) (by simp) (Blk.new w [_] _) (by simp [Value.ownBlock])).mono ?_
 rintro e w1 ⟨v1,rfl,hown1,hf1,_⟩
 have hF1:Fr [] w w1:=((Fr.refl [] w).alloc (.cells #[.int .i64 L.length] 3)).trans hf1 (by simp [Value.ownBlock])
 have e1:([]:List UInt8)++[L.length].flatMap (numL 1)=numL 1 L.length:=by simp
 rw [e1] at hown1
 have hpl:=numL_length 1 L.length
 generalize hp:numL 1 L.length=pre at hown1 hpl
 have Hp:=hidIt hp
 clear hp
 clear hf1 e1 hlen c0 hm hi
 go_wp2_with fail
 refine (Names_calls db mb L w1 (h.fr0 hF1)).mono ?_
 rintro e w2 ⟨nv,rfl,hnv,hf2,hnw⟩
 have hF2:=hF1.trans0 hf2
 have hl1:=hown1.lt
 replace hown1:=owns_fr hown1 hf2 (by simp)
 clear hf2
 obtain ⟨na,nc,rfl⟩:=hnv.cell
 have hnl:(L.map fun c=>c.x.name).length=L.length:=List.length_map _
 rw [hnl]
 go_wp2_with fail
 have hb1:=own_base hown1
 have hz2:=hF2.size
 have hF0:=Fr.refl [] w
 go_loopw [5,8,9,23] (fun v _ _ i wr=>∃k:Nat,k≤L.length∧i=.int .i64 k∧wr.ownsRow w.heap.size 5 1 v (pre++(L.take k).flatMap (fun c=>encE clean c.x)).length ((pre++(L.take k).flatMap (fun c=>encE clean c.x)).flatMap byC)∧(∀x,v.ownBlock=some x→v1.ownBlock=some x∨w2.heap.size≤x)∧Fr v1.ownBlock.toList w2 wr) (fun _ _ _ i _=>L.length - (intOf i).toNat)
 case atStart=>exact ⟨0,Nat.zero_le _,rfl,by simpa using hown1,fun x hx=>.inl hx,Fr.refl _ _⟩
 case round =>
  clear hown1
  obtain ⟨k,hk,rfl,hown,hob,hf⟩:=hrel
  have hF:Fr [] w wr:=hF2.trans hf (fun x hx hl=>by have:=hb1 x (by simpa using hx);omega)
  by_cases hlt:k<L.length
  ·have hst:=hidIt (take_encE clean hlt)
   have hD:=h.fr0 hF
   have hc:L[k]'hlt∈L:=List.getElem_mem _
   have hnm:(L.map fun c=>c.x.name).getD k []=(L[k]'hlt).x.name:=by
    rw [List.getD_eq_getElem?_getD,List.getElem?_map,List.getElem?_eq_getElem hlt];rfl
   obtain ⟨nb,noff,rfl,hnb,ccn0⟩:=SlT.at hnv (i:=k) (by rw [hnl];exact hlt)
   rw [hnm] at ccn0
   have ccn:wr.cell? ⟨nb,noff+k,none⟩=some (strL (L[k]'hlt).x.name):=by
    rw [World.cell?_of_block (hf.block nb hnb (fun hx=>by have:=(hl1 nb (by simpa using hx)).2;have:=hnw nb rfl;omega))];exact ccn0
   clear ccn0
   have hfc:=find_rising h.rising hc
   have HL:=HlenE.out k
   have htk:(L.take k).length≤8:=by simp;omega
   rw [List.flatMap_map,List.length_map] at HL
   generalize L[k]'hlt=c at *
   generalize (L.take k).flatMap (fun c=>encE clean c.x)=body at *
   have hE:=h.ents c hc
   have hE1:=hD.ents c hc
   have ok:OkE c.x:=⟨h.names c hc,hE.bits.size,hE.pow,hE.bits.len⟩
   have hs:=okName_len ok.name
   have hsh:=ok.short
   have hclt:=hE.blk.lt
   have c0:=hD.blk.cell 0
   obtain ⟨es,clock,hm,hi⟩:=hD.map
   have hl:=lookD hi (s:=c.x.name) (by unfold maxLen;omega) wr hm
   rw [hfc] at hl
   unfold cpt Cel.ptr at hl
   have hn0:(pre++body).length≤5000:=by simp only [List.length_append,hpl];omega
   have hz:=hF.size
   clear hfc hm hi HL htk HlenE
   go_wp2_with fail
   refine (oText_calls 1 (by omega) w.heap.size _ _ c.x.name wr hown (by (show _<256);omega) (by omega) (by omega) hz).mono ?_
   rintro e w3 ⟨v3,rfl,hown3,hf3,hob3⟩
   have hf3':Fr v1.ownBlock.toList w2 w3:=hf.trans hf3 (fun x hx hl=>by
    rcases hob x (by simpa using hx) with h | h
    ·simp [h]
    ·omega)
   have hob3':∀x,v3.ownBlock=some x→v1.ownBlock=some x∨w2.heap.size≤x:=fun x hx=>by
    rcases hob3 x hx with h | h
    ·exact hob x h
    ·have:=hf.size;exact .inr (by omega)
   have hn1:(pre++body++numL 1 c.x.name.length++c.x.name).length≤5020:=by simp only [List.length_append,numL_length] at hn0 ⊢;omega
   have hb3:=own_base hown3
   have hnot:∀k,k<w.heap.size→k ∉ v3.ownBlock.toList:=fun k hk hx=>by have:=hb3 k (by simpa using hx);omega
   have hF3:Fr [] w w3:=hF2.trans hf3' (fun x hx hl=>by have:=hb1 x (by simpa using hx);omega)
   have BE3:Blk w3.drew c.eb [strL c.x.name,.bool c.x.on,.bool c.x.use,.pointer (some ⟨c.tb,0,none⟩)] 144:=(hE.blk.fr0 hF3).drew
   have hz3:=hF3.size
   have hn2:=hn1
   clear hown hob hf hf3 hob3 c0 hl hD hE1 ccn
   cases hu:c.x.use with
   | false =>
     rw [hu] at BE3
     have Hst:Hid ((L.take (k+1)).flatMap (fun c=>encE clean c.x)=body++(numL 1 c.x.name.length++(c.x.name++(numL 1 (bn c.x.on)++(numL 1 (bn false)++(numL 2 (encB c.x.S c.x.g c.x.l).length++encB c.x.S c.x.g c.x.l)))))):=hidIt (by rw [hst.out];unfold encE;rw [hu];rfl)
     clear hst
     go_wp2_with fail
     refine wp_region_G (Fr v3.ownBlock.toList w3.drew) [(true,0),(true,1),(true,2),(true,3),(true,4),(true,6),(true,7),(true,8),(true,9),(false,5),(true,10),(true,11),(true,12),(false,13),(false,14),(false,15),(true,16),(true,17),(true,18),(true,19)] (by as_aux_lemma=>kernel_rfl) (by as_aux_lemma=>kernel_rfl) (Fr.refl _ _) ?_
     simp only [inOrder,jD,jE,jF,jG]
     iterate 4 (refine wpG_pure fun K hK=>?_;go_simp;refine hK _ ?_;clear hK K)
     refine wpG_val (.bool c.x.on) (by first | rfl | go_simp) (fun X hX=>by have cc:=(BE3.fr hX (hnot _ hclt)).cell;go_simp) ?_
     simp only [Act.put,jA,jB,jC]
     iterate 3 (refine wpG_pure fun K hK=>?_;go_simp;refine hK _ ?_;clear hK K)
     refine wpG_val (.bool false) (by first | rfl | go_simp) (fun X hX=>by have cc:=(BE3.fr hX (hnot _ hclt)).cell;go_simp) ?_
     simp only [Act.put,jA,jB,jC]
     refine wpG_one fun K hK=>?_
     go_simp
     refine (one_calls c.x.on _).mono ?_
     rintro e wa ⟨rfl,rfl⟩
     refine hK _ _ (Fr.refl _ _) ?_
     clear hK K
     iterate 3 (refine wpG_pure fun K hK=>?_;go_simp;refine hK _ ?_;clear hK K)
     refine wpG_one fun K hK=>?_
     go_simp
     refine (one_calls false _).mono ?_
     rintro e wa ⟨rfl,rfl⟩
     refine hK _ _ (Fr.refl _ _) ?_
     clear hK K
     refine wpG_one fun K hK=>?_
     go_simp
     refine hK _ _ ((Fr.refl _ _).alloc _) ?_
     clear hK K
     refine wpG_one fun K hK=>?_
     go_simp
     refine (Put_calls 1 (by omega) [bn c.x.on,bn false] (by intro x hx;simp at hx;rcases hx with rfl | rfl <;> exact bn_lt _) w.heap.size v3 _ w3.heap.size 2 _ ((owns_drew hown3).alloc _) (by simp only [List.length_cons,List.length_nil];omega) (by simp;omega) (Blk.new w3.drew [_,_] _) (fun k hk e=>by have:=(hown3.lt k hk).2;omega)).mono ?_
     rintro e w4 ⟨v4,rfl,hown4,hf4,hob4⟩
     have hf34:Fr v3.ownBlock.toList w3.drew w4:=((Fr.refl _ w3.drew).alloc (.cells #[.int .i64 (bn c.x.on),.int .i64 (bn false)] 3)).trans' hf4
     refine hK _ _ (hf34) ?_
     clear hK K
     iterate 4 (refine wpG_pure fun K hK=>?_;go_simp;refine hK _ ?_;clear hK K)
     refine wpG_end ?_
     have e4:(pre++body++numL 1 c.x.name.length++c.x.name)++[bn c.x.on,bn false].flatMap (numL 1)=pre++body++numL 1 c.x.name.length++c.x.name++numL 1 (bn c.x.on)++numL 1 (bn false):=by simp
     rw [e4] at hown4
     have hf4':Fr v1.ownBlock.toList w2 w4:=hf3'.trans ((Fr.refl v3.ownBlock.toList w3).drew.trans' hf34) (fun x hx hl=>by
      rcases hob3' x (by simpa using hx) with h | h
      ·simp [h]
      ·omega)
     simp only [World.size_alloc,World.size_drew] at hob4
     have hob4':∀x,v4.ownBlock=some x→v1.ownBlock=some x∨w2.heap.size≤x:=fun x hx=>by
      rcases hob4 x hx with h | h
      ·exact hob3' x h
      ·have:=hf3'.size;exact .inr (by omega)
     have hF4:Fr [] w w4:=hF2.trans hf4' (fun x hx hl=>by have:=hb1 x (by simpa using hx);omega)
     have hn4:(pre++body++numL 1 c.x.name.length++c.x.name++numL 1 (bn c.x.on)++numL 1 (bn false)).length≤10000:=by have:=hn1;simp only [List.length_append,numL_length] at this ⊢;omega
     clear hf4 hf34 hown3 hob3' hf3' hob4 e4 BE3 hnot hn1 hn2
     have hE4:=hE.fr0' hF0 hF4 h hc
     have ce4:=hE4.blk.cell
     go_wp2_with fail
     refine (EncodeB_calls c.tb c.mb c.x.S c.x.g c.x.l w4 hE4.bits).mono ?_
     rintro e w5 ⟨bv,rfl,hbo,hf5⟩
     have hcv:=conv_str (SlF.of_owns hbo)
     have hown5:=owns_fr hown4 hf5 (by simp)
     clear hbo
     go_wp2_with fail
     refine (oText_calls 2 (by omega) w.heap.size _ _ (encB c.x.S c.x.g c.x.l) w5 hown5 (by (show _<65536);omega) (by omega) (by omega) (by have:=hF4.size;have:=hf5.size;omega)).mono ?_
     rintro e w6 ⟨v6,rfl,hown6,hf6,hob6⟩
     have e6:pre++body++numL 1 c.x.name.length++c.x.name++numL 1 (bn c.x.on)++numL 1 (bn false)++numL 2 (encB c.x.S c.x.g c.x.l).length++encB c.x.S c.x.g c.x.l=pre++(L.take (k+1)).flatMap (fun c=>encE clean c.x):=by rw [Hst.out];simp only [List.append_assoc]
     rw [e6] at hown6
     have hf6':Fr v1.ownBlock.toList w2 w6:=(hf4'.trans0 hf5).trans hf6 (fun x hx hl=>by
      rcases hob4' x (by simpa using hx) with h | h
      ·simp [h]
      ·omega)
     have hob6':∀x,v6.ownBlock=some x→v1.ownBlock=some x∨w2.heap.size≤x:=fun x hx=>by
      rcases hob6 x hx with h | h
      ·exact hob4' x h
      ·have:=hf4'.size;have:=hf5.size;exact .inr (by omega)
     clear hown4 hob4' hf4' hob6 hf6 hf5 hown5 hcv e6 Hst hE4 ce4
     go_wp2
     go_roundw
     case rel=>exact ⟨k+1,by omega,by go_num,hown6,hob6',hf6'⟩
     case measure=>simp [intOf];omega
   | true =>
     rw [hu] at BE3
     have Hst:Hid ((L.take (k+1)).flatMap (fun c=>encE clean c.x)=body++(numL 1 c.x.name.length++(c.x.name++(numL 1 (bn c.x.on)++(numL 1 (bn clean)++(numL 2 (encB c.x.S c.x.g c.x.l).length++encB c.x.S c.x.g c.x.l)))))):=hidIt (by rw [hst.out];unfold encE;rw [hu];rfl)
     clear hst
     go_wp2_with fail
     refine wp_region_G (Fr v3.ownBlock.toList w3.drew) [(true,0),(true,1),(true,2),(true,3),(true,4),(true,6),(true,7),(true,8),(true,9),(false,5),(true,10),(true,11),(true,12),(false,13),(false,14),(false,15),(true,16),(true,17),(true,18),(true,19)] (by as_aux_lemma=>kernel_rfl) (by as_aux_lemma=>kernel_rfl) (Fr.refl _ _) ?_
     simp only [inOrder,jD,jE,jF,jG]
     iterate 4 (refine wpG_pure fun K hK=>?_;go_simp;refine hK _ ?_;clear hK K)
     refine wpG_val (.bool c.x.on) (by first | rfl | go_simp) (fun X hX=>by have cc:=(BE3.fr hX (hnot _ hclt)).cell;go_simp) ?_
     simp only [Act.put,jA,jB,jC]
     iterate 3 (refine wpG_pure fun K hK=>?_;go_simp;refine hK _ ?_;clear hK K)
     refine wpG_val (.bool true) (by first | rfl | go_simp) (fun X hX=>by have cc:=(BE3.fr hX (hnot _ hclt)).cell;go_simp) ?_
     simp only [Act.put,jA,jB,jC]
     refine wpG_one fun K hK=>?_
     go_simp
     refine (one_calls c.x.on _).mono ?_
     rintro e wa ⟨rfl,rfl⟩
     refine hK _ _ (Fr.refl _ _) ?_
     clear hK K
     iterate 3 (refine wpG_pure fun K hK=>?_;go_simp;refine hK _ ?_;clear hK K)
     refine wpG_one fun K hK=>?_
     go_simp
     refine (one_calls clean _).mono ?_
     rintro e wa ⟨rfl,rfl⟩
     refine hK _ _ (Fr.refl _ _) ?_
     clear hK K
     refine wpG_one fun K hK=>?_
     go_simp
     refine hK _ _ ((Fr.refl _ _).alloc _) ?_
     clear hK K
     refine wpG_one fun K hK=>?_
     go_simp
     refine (Put_calls 1 (by omega) [bn c.x.on,bn clean] (by intro x hx;simp at hx;rcases hx with rfl | rfl <;> exact bn_lt _) w.heap.size v3 _ w3.heap.size 2 _ ((owns_drew hown3).alloc _) (by simp only [List.length_cons,List.length_nil];omega) (by simp;omega) (Blk.new w3.drew [_,_] _) (fun k hk e=>by have:=(hown3.lt k hk).2;omega)).mono ?_
     rintro e w4 ⟨v4,rfl,hown4,hf4,hob4⟩
     have hf34:Fr v3.ownBlock.toList w3.drew w4:=((Fr.refl _ w3.drew).alloc (.cells #[.int .i64 (bn c.x.on),.int .i64 (bn clean)] 3)).trans' hf4
     refine hK _ _ (hf34) ?_
     clear hK K
     iterate 4 (refine wpG_pure fun K hK=>?_;go_simp;refine hK _ ?_;clear hK K)
     refine wpG_end ?_
     have e4:(pre++body++numL 1 c.x.name.length++c.x.name)++[bn c.x.on,bn clean].flatMap (numL 1)=pre++body++numL 1 c.x.name.length++c.x.name++numL 1 (bn c.x.on)++numL 1 (bn clean):=by simp
     rw [e4] at hown4
     have hf4':Fr v1.ownBlock.toList w2 w4:=hf3'.trans ((Fr.refl v3.ownBlock.toList w3).drew.trans' hf34) (fun x hx hl=>by
      rcases hob3' x (by simpa using hx) with h | h
      ·simp [h]
      ·omega)
     simp only [World.size_alloc,World.size_drew] at hob4
     have hob4':∀x,v4.ownBlock=some x→v1.ownBlock=some x∨w2.heap.size≤x:=fun x hx=>by
      rcases hob4 x hx with h | h
      ·exact hob3' x h
      ·have:=hf3'.size;exact .inr (by omega)
     have hF4:Fr [] w w4:=hF2.trans hf4' (fun x hx hl=>by have:=hb1 x (by simpa using hx);omega)
     have hn4:(pre++body++numL 1 c.x.name.length++c.x.name++numL 1 (bn c.x.on)++numL 1 (bn clean)).length≤10000:=by have:=hn1;simp only [List.length_append,numL_length] at this ⊢;omega
     clear hf4 hf34 hown3 hob3' hf3' hob4 e4 BE3 hnot hn1 hn2
     have hE4:=hE.fr0' hF0 hF4 h hc
     have ce4:=hE4.blk.cell
     go_wp2_with fail
     refine (EncodeB_calls c.tb c.mb c.x.S c.x.g c.x.l w4 hE4.bits).mono ?_
     rintro e w5 ⟨bv,rfl,hbo,hf5⟩
     have hcv:=conv_str (SlF.of_owns hbo)
     have hown5:=owns_fr hown4 hf5 (by simp)
     clear hbo
     go_wp2_with fail
     refine (oText_calls 2 (by omega) w.heap.size _ _ (encB c.x.S c.x.g c.x.l) w5 hown5 (by (show _<65536);omega) (by omega) (by omega) (by have:=hF4.size;have:=hf5.size;omega)).mono ?_
     rintro e w6 ⟨v6,rfl,hown6,hf6,hob6⟩
     have e6:pre++body++numL 1 c.x.name.length++c.x.name++numL 1 (bn c.x.on)++numL 1 (bn clean)++numL 2 (encB c.x.S c.x.g c.x.l).length++encB c.x.S c.x.g c.x.l=pre++(L.take (k+1)).flatMap (fun c=>encE clean c.x):=by rw [Hst.out];simp only [List.append_assoc]
     rw [e6] at hown6
     have hf6':Fr v1.ownBlock.toList w2 w6:=(hf4'.trans0 hf5).trans hf6 (fun x hx hl=>by
      rcases hob4' x (by simpa using hx) with h | h
      ·simp [h]
      ·omega)
     have hob6':∀x,v6.ownBlock=some x→v1.ownBlock=some x∨w2.heap.size≤x:=fun x hx=>by
      rcases hob6 x hx with h | h
      ·exact hob4' x h
      ·have:=hf4'.size;have:=hf5.size;exact .inr (by omega)
     clear hown4 hob4' hf4' hob6 hf6 hf5 hown5 hcv e6 Hst hE4 ce4
     go_wp2
     go_roundw
     case rel=>exact ⟨k+1,by omega,by go_num,hown6,hob6',hf6'⟩
     case measure=>simp [intOf];omega
  ·have hke:k=L.length:=by omega
   subst hke
   rw [List.take_length] at hown
   go_wp2
   go_ret
   exact ⟨_,rfl,by rw [Hp.out];exact hown,hF⟩
end Go.Proofs.YtffnihooekbcnaaGreat
