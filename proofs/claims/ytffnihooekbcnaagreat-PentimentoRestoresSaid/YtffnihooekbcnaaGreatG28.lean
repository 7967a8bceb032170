/-
  Package span: end, add (one place), Of.
-/
import Derived.Test.YtffnihooekbcnaaGreatG00
import Derived.Deep.QuietTactic
import Derived.BigQuiet
import Derived.Test.YtffnihooekbcnaaGreatG03
set_option maxRecDepth 100000
set_option maxHeartbeats 6400000
namespace Go.Proofs.YtffnihooekbcnaaGreat
open Go.RowKit Go.Maps
theorem infoExt:(Tryz.prog.info? 268).map (fun i=>(i.zero,i.size,i.bytes))=some (some (.agg #[.int .i64 0,.int .i64 0,.int .i64 0]),3,24):=by kernel_rfl
theorem ext_one {o:Op3}:∀u∈op3C o,u.oneCell'=true:=by
 intro u hu
 simp at hu
 rcases hu with rfl | rfl | rfl <;> rfl
def lastE (E:List Op3):Op3:=E.getD (E.length - 1) z3
def endE (E:List Op3):Int:=if E.length=0 then 0 else (lastE E).1+(lastE E).2.1
def addE (E:List Op3) (k:Int):List Op3:=if E.length≠0∧(lastE E).2.2=k then E.set (E.length - 1) ((lastE E).1,(lastE E).2.1+1,(lastE E).2.2) else E++[(endE E,1,k)]
def ofE (ks:List Int):List Op3:=ks.foldl addE []
def smallE (E:List Op3):Prop:=∀e∈E,(0≤e.1∧e.1≤1000000)∧(0≤e.2.1∧e.2.1≤1000000)
theorem smallE.last {E:List Op3} (h:smallE E) (h0:E.length≠0):(0≤(lastE E).1∧(lastE E).1≤1000000)∧(0≤(lastE E).2.1∧(lastE E).2.1≤1000000) :=
 h _ (List.mem_of_getElem? (getD_some z3 (by omega:E.length - 1<E.length)))
theorem send_calls (v:Value) (E:List Op3) (w:World) (hv:SlP w v E) (hs:smallE E):Calls Tryz.prog 240 #[v] w fun e w'=>e=.returned (.int .i64 (endE E))∧Fr [] w w':=by
 obtain ⟨a,cap,rfl,hlc,hcm,_⟩:=hv.open
 unfold maxLen at hcm
 by_cases h0:E.length=0
 ·have he:Hid (endE E=0):=hidIt (by unfold endE;rw [if_pos h0])
  go_enter Tryz.func240,Tryz.ntmps240
  go_wp2
  go_ret
  exact ⟨ret_int he.out.symm,Fr.refl _ _⟩
 ·have he:Hid (endE E=(lastE E).1+(lastE E).2.1):=hidIt (by unfold endE;rw [if_neg h0])
  obtain ⟨b,off,rfl,hb,c0,c1,c2⟩:=SlP.at hv (i:=E.length - 1) (by omega)
  have hl:=hs.last h0
  unfold lastE at he hl
  generalize E.getD (E.length - 1) z3=x at *
  obtain ⟨p,q,r⟩:=x
  simp only at c0 c1 c2 he hl
  have e1:(E.length:Int) - 1=((E.length - 1:Nat):Int):=by omega
  have hlt:E.length - 1<E.length:=by omega
  have hw1:IntKind.i64.wrap (((E.length - 1:Nat):Int))=((E.length - 1:Nat):Int):=IntWalk.i64_in _ (by omega)
  go_enter Tryz.func240,Tryz.ntmps240
  go_wp2_with fail
  go_quiet (fail)
  go_wp2
  go_ret
  exact ⟨ret_int he.out.symm,(Fr.refl _ _).drewN _⟩
theorem flatE_length (l:List Op3):(l.flatMap op3C).length=l.length*3:=by
 induction l with
 | nil=>rfl
 | cons s g ih=>simp [ih];omega
theorem flatE_set1 (l:List Op3) (i:Nat) (hi:i<l.length) (a b c y:Int) (h:l[i]? = some (a,b,c)):(l.set i (a,y,c)).flatMap op3C=(l.flatMap op3C).set (i*3+1) (.int .i64 y):=by
 apply List.ext_getElem?
 intro k
 obtain ⟨q,j,hj,rfl⟩:∃q j,j<3∧k=q*3+j:=⟨k / 3,k % 3,Nat.mod_lt _ (by omega),by omega⟩
 rw [flat_at op3C 3 (fun _=>rfl) _ q j hj,List.getElem?_set,List.getElem?_set,flatE_length,flat_at op3C 3 (fun _=>rfl) _ q j hj]
 by_cases hq:i=q
 ·subst hq
  rw [if_pos rfl,if_pos hi,h]
  match j,hj with
  | 0,_=>rw [if_neg (by omega)];rfl
  | 1,_=>rw [if_pos rfl,if_pos (by omega)];rfl
  | 2,_=>rw [if_neg (by omega)];rfl
 ·rw [if_neg hq,if_neg (by omega)]
theorem add_calls (base:Nat) (v:Value) (E:List Op3) (k:Int) (w:World) (hown:w.ownsRow base 268 3 v E.length (E.flatMap op3C)) (hs:smallE E) (hn:E.length≤1000000) (hb:base≤w.heap.size) :
 Calls Tryz.prog 210 #[v,.int .i64 1,.int .i64 k] w fun e w'=>∃v',e=.returned v'∧w'.ownsRow base 268 3 v' (addE E k).length ((addE E k).flatMap op3C)∧Fr v.ownBlock.toList w w':=by
 by_cases h0:E.length=0
 ·have hE:E=[]:=List.eq_nil_of_length_eq_zero h0
  subst hE
  clear h0 hn
  have hsl:SlP w v []:=SlF.of_owns hown
  obtain ⟨a,cap,rfl,_,_,_⟩:=Sl.of_owns hown
  have ha:Hid (addE [] k=[(0,1,k)]):=hidIt (by unfold addE endE;simp)
  have key:=send_calls _ [] w hsl hs
  have he:endE []=0:=rfl
  rw [he] at key
  simp only [List.length_nil,List.flatMap_nil] at hown key ⊢
  go_enter Tryz.func210,Tryz.ntmps210
  go_wp2_with fail
  refine key.mono ?_
  rintro e w1 ⟨rfl,hf⟩
  have hown1:=owns_fr hown hf (by simp)
  have hsz:=hf.size
  have hob:=own_base hown
  clear key hsl hs
  go_wp2_with (at_builtin;refine Hid.out ?_)
  refine hidIt ?_
  refine wpList_append1 225 268 (.agg #[.int .i64 0,.int .i64 0,.int .i64 0]) 3 24 Tryz.underlying225 infoExt rfl (by decide) (by decide) rfl _ _ rfl base (.slice a 0 cap) 0 [] rfl (hown1.alloc _) (op3C (0,1,k)) rfl ext_one w1.heap.size rfl (Blk.new _ _ _) (by omega) (by simp;omega) ?_
  intro v' w2 hown2 hgrow hloc
  go_wp2
  go_ret
  refine ⟨v',rfl,?_,((hf.weak).alloc _).grown hgrow (fun x hx=>.inl (by rw [hx];simp))⟩
  rw [ha.out]
  simpa using hown2
 ·obtain ⟨g,cap,rfl,hgb,_⟩:=owns_succ hown (by omega)
  have hlt:E.length - 1<E.length:=by omega
  have hsl:SlP w (.slice (some ⟨g,0,none⟩) E.length cap) E:=SlF.of_owns hown
  have hx:=getD_some z3 hlt
  have hat:∀j u,(op3C (E.getD (E.length - 1) z3))[j]? = some u→j<3→(E.flatMap op3C)[(E.length - 1)*3+j]? = some u:=fun j u hu hj=>by
   rw [flat_at op3C 3 (fun _=>rfl) E _ j hj,hx];exact hu
  have hlast:=hs.last h0
  have d1:=owns_at hown (hat 1 _ rfl (by omega))
  have d2:=owns_at hown (hat 2 _ rfl (by omega))
  have hset:=fun y=>hidIt (flatE_set1 E (E.length - 1) hlt (E.getD (E.length - 1) z3).1 (E.getD (E.length - 1) z3).2.1 (E.getD (E.length - 1) z3).2.2 y hx)
  have ha:Hid (addE E k=if E.length≠0∧(lastE E).2.2=k then E.set (E.length - 1) ((lastE E).1,(lastE E).2.1+1,(lastE E).2.2) else E++[(endE E,1,k)]):=hidIt (by unfold addE;rfl)
  have key:=send_calls _ E w hsl hs
  unfold lastE at ha hlast
  clear hat hx hsl hs
  generalize E.getD (E.length - 1) z3=x at *
  obtain ⟨p,q,r⟩:=x
  simp only at d1 d2 hset ha hlast
  generalize endE E=en at *
  have e1:(E.length:Int) - 1=((E.length - 1:Nat):Int):=by omega
  by_cases hr:r=k
  ·subst hr
   rw [if_pos ⟨h0,rfl⟩] at ha
   obtain ⟨d1,f1⟩:=d1
   obtain ⟨d2,f2⟩:=d2
   clear key
   go_enter Tryz.func210,Tryz.ntmps210
   go_wp2
   go_ret
   refine ⟨_,rfl,?_,(Fr.refl _ w).setCell (.inl (by simp [Value.ownBlock])) _⟩
   rw [ha.out,List.length_set,(hset (q+1)).out]
   exact owns_put hown _ _
  ·rw [if_neg (fun h=>hr h.2)] at ha
   obtain ⟨d1,f1⟩:=d1
   obtain ⟨d2,f2⟩:=d2
   clear hset
   go_enter Tryz.func210,Tryz.ntmps210
   go_wp2_with fail
   refine key.mono ?_
   rintro e w1 ⟨rfl,hf⟩
   have hown1:=owns_fr hown hf (by simp)
   have hsz:=hf.size
   clear key
   go_wp2_with (at_builtin;refine Hid.out ?_)
   refine hidIt ?_
   refine wpList_append1 225 268 (.agg #[.int .i64 0,.int .i64 0,.int .i64 0]) 3 24 Tryz.underlying225 infoExt rfl (by decide) (by decide) rfl _ _ rfl base (.slice (some ⟨g,0,none⟩) E.length cap) E.length (E.flatMap op3C) rfl (hown1.alloc _) (op3C (en,1,k)) rfl ext_one w1.heap.size rfl (Blk.new _ _ _) (by omega) (by simp;omega) ?_
   intro v' w2 hown2 hgrow hloc
   go_wp2
   go_ret
   refine ⟨v',rfl,?_,((hf.weak).alloc _).grown hgrow (fun x hx=>.inl (by rw [hx];simp))⟩
   rw [ha.out]
   simp only [List.length_append,List.length_singleton,List.flatMap_append,List.flatMap_cons,List.flatMap_nil,List.append_nil]
   exact hown2
theorem ofE_snoc (ks:List Int) (k:Int):ofE (ks++[k])=addE (ofE ks) k:=by unfold ofE;rw [List.foldl_append];rfl
end Go.Proofs.YtffnihooekbcnaaGreat
namespace Go.Proofs.YtffnihooekbcnaaGreat
def flatE (E:List Op3):List Int:=E.flatMap fun e=>List.replicate e.2.1.toNat e.2.2
def RightE (E:List Op3) (d:List Int):Prop:=flatE E=d∧∀i,i<E.length→(E.getD i z3).1=((flatE (E.take i)).length:Int)∧1≤(E.getD i z3).2.1
theorem RightE.nil:RightE [] []:=⟨rfl,fun i h=>by simp at h⟩
theorem flatE_snoc (L:List Op3) (x:Op3):flatE (L++[x])=flatE L++List.replicate x.2.1.toNat x.2.2:=by
 unfold flatE
 rw [List.flatMap_append]
 simp
theorem getD_left {L M:List Op3} {i:Nat} (h:i<L.length):(L++M).getD i z3=L.getD i z3:=by
 rw [List.getD_eq_getElem?_getD,List.getElem?_append_left h,List.getD_eq_getElem?_getD]
theorem getD_right (L:List Op3) (x:Op3):(L++[x]).getD L.length z3=x:=by
 rw [List.getD_eq_getElem?_getD,List.getElem?_append_right (Nat.le_refl _)]
 simp
theorem RightE.snoc {L:List Op3} {x:Op3} {d:List Int}:RightE (L++[x]) d ↔ ∃d',RightE L d'∧x.1=(d'.length:Int)∧1≤x.2.1∧d=d'++List.replicate x.2.1.toNat x.2.2:=by
 constructor
 ·rintro ⟨h1,h2⟩
  have hx:=h2 L.length (by simp)
  rw [getD_right,List.take_left'  rfl] at hx
  refine ⟨flatE L,⟨rfl,fun i hi=>?_⟩,hx.1,hx.2,by rw [←h1,flatE_snoc]⟩
  have:=h2 i (by simp;omega)
  rw [getD_left hi,List.take_append_of_le_length (by omega)] at this
  exact this
 ·rintro ⟨d',⟨h1,h2⟩,hx1,hx2,rfl⟩
  refine ⟨by rw [flatE_snoc,h1],fun i hi=>?_⟩
  by_cases hl:i<L.length
  ·rw [getD_left hl,List.take_append_of_le_length (by omega)]
   exact h2 i hl
  ·have:i=L.length:=by simp at hi;omega
   subst this
   rw [getD_right,List.take_left' rfl,h1]
   exact ⟨hx1,hx2⟩
theorem last_snoc (L:List Op3) (x:Op3):lastE (L++[x])=x:=by
 unfold lastE
 have:(L++[x]).length - 1=L.length:=by simp
 rw [this,getD_right]
theorem RightE.add {E:List Op3} {d:List Int} (h:RightE E d) (k:Int):RightE (addE E k) (d++[k]):=by
 rcases List.eq_nil_or_concat E with rfl | ⟨L,x,rfl⟩
 ·have hd:d=[]:=h.1.symm
  subst hd
  have e:addE [] k=[]++[(0,1,k)]:=by unfold addE endE;simp
  rw [e]
  exact RightE.snoc.2 ⟨[],RightE.nil,rfl,by simp,by simp⟩
 ·rw [List.concat_eq_append] at h ⊢
  obtain ⟨d',hL,hx1,hx2,rfl⟩:=RightE.snoc.1 h
  unfold addE
  rw [last_snoc]
  by_cases hk:x.2.2=k
  ·rw [if_pos ⟨by simp,hk⟩]
   have e:(L++[x]).set ((L++[x]).length - 1) (x.1,x.2.1+1,x.2.2)=L++[(x.1,x.2.1+1,x.2.2)]:=by
    have:(L++[x]).length - 1=L.length:=by simp
    rw [this,List.set_append_right _ _ (Nat.le_refl _)]
    simp
   rw [e]
   refine RightE.snoc.2 ⟨d',hL,hx1,by show 1≤x.2.1+1;omega,?_⟩
   have e2:(x.2.1+1).toNat=x.2.1.toNat+1:=by omega
   show (d'++List.replicate x.2.1.toNat x.2.2)++[k]=d'++List.replicate (x.2.1+1).toNat x.2.2
   rw [e2,List.replicate_succ',←hk,List.append_assoc]
  ·rw [if_neg (fun h=>hk h.2)]
   refine RightE.snoc.2 ⟨d'++List.replicate x.2.1.toNat x.2.2,RightE.snoc.2 ⟨d',hL,hx1,hx2,rfl⟩,?_,by simp,by simp⟩
   unfold endE
   rw [if_neg (by simp),last_snoc]
   simp
   omega
theorem RightE.of (ks:List Int):RightE (ofE ks) ks:=by
 have key:∀(l:List Int) (E:List Op3) (d:List Int),RightE E d→RightE (l.foldl addE E) (d++l):=by
  intro l
  induction l with
  | nil=>intro E d h;simpa using h
  | cons k l ih =>
    intro E d h
    have:=ih (addE E k) (d++[k]) (h.add k)
    simpa using this
 have:=key ks [] [] RightE.nil
 simpa [ofE] using this
theorem flat_take_le (E:List Op3) (i:Nat):(flatE (E.take i)).length≤(flatE E).length:=by
 have:flatE E=flatE (E.take i)++flatE (E.drop i):=by
  unfold flatE
  rw [←List.flatMap_append,List.take_append_drop]
 rw [this,List.length_append]
 omega
theorem flat_step {E:List Op3} {i:Nat} (hi:i<E.length):flatE (E.take (i+1))=flatE (E.take i)++List.replicate (E.getD i z3).2.1.toNat (E.getD i z3).2.2:=by
 have hg:E[i]=E.getD i z3:=by rw [List.getD_eq_getElem?_getD,List.getElem?_eq_getElem hi];rfl
 rw [List.take_succ_eq_append_getElem hi,hg,flatE_snoc]
theorem RightE.small {E:List Op3} {d:List Int} (h:RightE E d) (hd:d.length≤1000000):smallE E:=by
 intro e he
 obtain ⟨i,hi,rfl⟩:=List.getElem_of_mem he
 have hg:E[i]=E.getD i z3:=by rw [List.getD_eq_getElem?_getD,List.getElem?_eq_getElem hi];rfl
 have h2:=h.2 i hi
 have h3:=flat_take_le E (i+1)
 rw [flat_step hi,List.length_append,List.length_replicate,h.1] at h3
 rw [hg]
 omega
theorem RightE.len {E:List Op3} {d:List Int} (h:RightE E d):E.length≤d.length:=by
 have key:∀i,i≤E.length→i≤(flatE (E.take i)).length:=by
  intro i
  induction i with
  | zero=>intro _;omega
  | succ i ih =>
    intro hi
    have:=ih (by omega)
    have h2:=h.2 i (by omega)
    rw [flat_step (by omega),List.length_append,List.length_replicate]
    omega
 have:=key E.length (Nat.le_refl _)
 rw [List.take_length,h.1] at this
 exact this
theorem RightE.kind {E:List Op3} {d:List Int} (h:RightE E d) {i j:Nat} (hi:i<E.length) (hj:(j:Int)<(E.getD i z3).2.1):d.getD ((flatE (E.take i)).length+j) 0=(E.getD i z3).2.2:=by
 have h3:d=(flatE (E.take i)++List.replicate (E.getD i z3).2.1.toNat (E.getD i z3).2.2)++flatE (E.drop (i+1)):=by
  rw [←flat_step hi,←h.1]
  unfold flatE
  rw [←List.flatMap_append,List.take_append_drop]
 rw [h3,List.append_assoc,List.getD_eq_getElem?_getD,List.getElem?_append_right (by omega),Nat.add_sub_cancel_left,List.getElem?_append_left (by rw [List.length_replicate];omega),List.getElem?_replicate,if_pos (by omega)]
 rfl
end Go.Proofs.YtffnihooekbcnaaGreat
namespace Go.Proofs.YtffnihooekbcnaaGreat
open Go.RowKit Go.Maps
theorem infoInt:(Tryz.prog.info? 3).map (fun i=>(i.zero,i.size,i.bytes))=some (some (.int .i64 0),1,8):=by kernel_rfl
theorem OfOwn_calls (v:Value) (ks:List Int) (w:World) (hv:SlI w v ks) (hn:ks.length≤4096):Calls Tryz.prog 190 #[v] w fun e w'=>∃v',e=.returned v'∧w'.ownsRow w.heap.size 268 3 v' (ofE ks).length ((ofE ks).flatMap op3C)∧Fr [] w w':=by
 obtain ⟨a,cap,rfl,hlc,hcm,_⟩:=hv.open
 unfold maxLen at hcm
 have hgt:¬(65536:Int)<(ks.length:Int):=by omega
 go_enter Tryz.func190,Tryz.ntmps190
 go_wp2_with fail
 go_loopw [3,5,11] (fun v _ i wr=>∃n:Nat,n≤ks.length∧i=.int .i64 n∧wr.ownsRow w.heap.size 268 3 v (ofE (ks.take n)).length ((ofE (ks.take n)).flatMap op3C)∧Fr [] w wr) (fun _ _ i _=>ks.length - (intOf i).toNat)
 case atStart=>exact ⟨0,Nat.zero_le _,rfl,World.ownsRow_nil _ _ _ _,Fr.refl _ _⟩
 case round =>
  obtain ⟨n,hnl,rfl,hown,hF⟩:=hrel
  by_cases hlt:n<ks.length
  ·obtain ⟨b,off,rfl,hb,c0⟩:=SlI.at (hv.fr0 hF) hlt
   have hR:=RightE.of (ks.take n)
   have hsm:=hR.small (by simp;omega)
   have hl:=hR.len
   rw [List.length_take] at hl
   have Hst:Hid (ofE (ks.take (n+1))=addE (ofE (ks.take n)) (ks.getD n 0)):=hidIt (by
    have hg:ks[n]=ks.getD n 0:=by rw [List.getD_eq_getElem?_getD,List.getElem?_eq_getElem hlt];rfl
    rw [List.take_succ_eq_append_getElem hlt,hg,ofE_snoc])
   have hob:=own_base hown
   have hsz:=hF.size
   clear hR
   generalize ofE (ks.take n)=E at *
   generalize ks.getD n 0=k at *
   go_wp2_with fail
   refine (add_calls w.heap.size u3 E k _ hown hsm (by omega) (by omega)).mono ?_
   rintro e w2 ⟨v2,rfl,hown2,hf2⟩
   go_wp2
   go_roundw
   case rel=>exact ⟨n+1,by omega,by go_num,by rw [Hst.out];exact hown2,hF.trans hf2 (fun x hx hl=>by have:=hob x (by simpa using hx);omega)⟩
   case measure=>simp [intOf];omega
  ·have hke:n=ks.length:=by omega
   rw [hke,List.take_length] at hown
   clear hke
   go_wp2
   go_ret
   exact ⟨u3,rfl,hown,hF⟩
theorem Of_calls (v:Value) (ks:List Int) (w:World) (hv:SlI w v ks) (hn:ks.length≤4096):Calls Tryz.prog 190 #[v] w fun e w'=>∃v',e=.returned v'∧SlP w' v' (ofE ks)∧Fr [] w w' :=
 (OfOwn_calls v ks w hv hn).mono fun _ _ ⟨v',h1,h2,h3⟩=>⟨v',h1,SlF.of_owns h2,h3⟩
def kindsB (S g:Nat) (l:List Bool) (n:Nat):List Int:=(List.range n).map fun s:Nat=>if isB S g l s=true then 1 else 0
theorem kindsB_succ (S g:Nat) (l:List Bool) (n:Nat):kindsB S g l (n+1)=kindsB S g l n++[if isB S g l n=true then 1 else 0]:=by
 unfold kindsB
 rw [List.range_succ,List.map_append]
 rfl
theorem kindsB_len (S g:Nat) (l:List Bool) (n:Nat):(kindsB S g l n).length=n:=by simp [kindsB]
theorem kindsB_getD (S g:Nat) (l:List Bool) {n s:Nat} (h:s<n):(kindsB S g l n).getD s 0=if isB S g l s=true then 1 else 0:=by
 unfold kindsB
 rw [List.getD_eq_getElem?_getD,List.getElem?_map,List.getElem?_range h]
 rfl
theorem Row_calls (tb mb S g:Nat) (l:List Bool) (w:World) (h:BitW w tb mb S g l):Calls Tryz.prog 156 #[.pointer (some ⟨tb,0,none⟩)] w fun e w'=>∃v',e=.returned v'∧SlP w' v' (ofE (kindsB S g l S))∧Fr [] w w':=by
 have hS:=h.size
 have c:=h.blk.cell
 have hlt0:=h.lt.1
 go_enter Tryz.func156,Tryz.ntmps156
 go_wp2_with fail
 go_loopw [3,4,5,10] (fun v _ _ i wr=>∃n:Nat,n≤S∧i=.int .i64 n∧wr.ownsRow w.heap.size 3 1 v n ((kindsB S g l n).flatMap intC)∧Fr [] w wr) (fun _ _ _ i _=>S - (intOf i).toNat)
 case atStart=>exact ⟨0,Nat.zero_le _,rfl,World.ownsRow_nil _ _ _ _,Fr.refl _ _⟩
 case round =>
  obtain ⟨n,hnl,rfl,hown,hF⟩:=hrel
  have hW:=h.fr0 hF
  clear c
  by_cases hlt:n<S
  ·have Hst:=hidIt (kindsB_succ S g l n)
   generalize kindsB S g l n=K at *
   go_wp2_with fail
   refine (Is_calls tb mb S g l n _ hW).mono ?_
   rintro e w2 ⟨rfl,hf2⟩
   have hown2:=owns_fr hown hf2 (by simp)
   have hF2:=hF.trans0 hf2
   have hob:=own_base hown2
   have hsz:=hF2.size
   clear hown hF hf2 hW
   generalize isB S g l (n:Int)=q at *
   cases q
   ·go_wp2_with (at_builtin;refine Hid.out ?_)
    refine hidIt ?_
    refine wpList_append1 167 3 (.int .i64 0) 1 8 Tryz.underlying167 infoInt rfl (by decide) (by decide) rfl _ _ rfl w.heap.size u3 n (K.flatMap intC) rfl (hown2.alloc _) (intC 0) rfl int_one w2.heap.size rfl (Blk.new _ _ _) (by omega) (by simp;omega) ?_
    intro v' w3 hown3 hgrow hloc
    go_frame
    go_wp2
    go_roundw
    case rel=>exact ⟨n+1,by omega,by go_num,by rw [Hst.out];simpa using hown3,(hF2.alloc _).grown hgrow (fun x hx=>.inr (hob x hx))⟩
    case measure=>simp [intOf];omega
   ·go_wp2_with (at_builtin;refine Hid.out ?_)
    refine hidIt ?_
    refine wpList_append1 167 3 (.int .i64 0) 1 8 Tryz.underlying167 infoInt rfl (by decide) (by decide) rfl _ _ rfl w.heap.size u3 n (K.flatMap intC) rfl (hown2.alloc _) (intC 1) rfl int_one w2.heap.size rfl (Blk.new _ _ _) (by omega) (by simp;omega) ?_
    intro v' w3 hown3 hgrow hloc
    go_frame
    go_wp2
    go_roundw
    case rel=>exact ⟨n+1,by omega,by go_num,by rw [Hst.out];simpa using hown3,(hF2.alloc _).grown hgrow (fun x hx=>.inr (hob x hx))⟩
    case measure=>simp [intOf];omega
  ·have hke:n=S:=by omega
   subst hke
   have hsl:SlI wr u3 (kindsB n g l n):=SlF.of_owns (base:=w.heap.size) (e:=3) (size:=1) (by rw [kindsB_len];exact hown)
   have hkl:=kindsB_len n g l n
   go_wp2_with fail
   refine (Of_calls u3 _ _ hsl (by omega)).mono ?_
   rintro e w2 ⟨v2,rfl,hs2,hf2⟩
   go_wp2
   go_ret
   exact ⟨v2,rfl,hs2,hF.trans0 hf2⟩
end Go.Proofs.YtffnihooekbcnaaGreat
namespace Go.Proofs.YtffnihooekbcnaaGreat
theorem addE_same (L:List Op3) (f n k:Int):addE (L++[(f,n,k)]) k=L++[(f,n+1,k)]:=by
 unfold addE
 rw [last_snoc,if_pos ⟨by simp,rfl⟩]
 have:(L++[(f,n,k)]).length - 1=L.length:=by simp
 rw [this,List.set_append_right _ _ (Nat.le_refl _)]
 simp
def rightN:Int→List Op3→Bool
 | _,[]=>true
 | n,x :: l=>(decide (x.1=n) && (decide (1≤x.2.1) && decide (x.2.1≤65536 - n))) && rightN (n+x.2.1) l
def right (l:List Op3):Bool:=rightN 0 l
def kindsE (l:List Op3):List Int:=if right l=true then flatE l else []
theorem drop_getD {α:Type} (d:α) {l:List α} {k:Nat} (h:k<l.length):l.drop k=l.getD k d :: l.drop (k+1):=by
 rw [List.drop_eq_getElem_cons h,List.getD_eq_getElem?_getD,List.getElem?_eq_getElem h]
 rfl
theorem rightN_step {n:Int} {l:List Op3} {k:Nat} (h:k<l.length):rightN n (l.drop k)=((decide ((l.getD k z3).1=n) && (decide (1≤(l.getD k z3).2.1) && decide ((l.getD k z3).2.1≤65536 - n))) && rightN (n+(l.getD k z3).2.1) (l.drop (k+1))):=by
 rw [drop_getD z3 h,rightN]
theorem rightN_ok:∀(l P:List Op3) (d:List Int),RightE P d→d.length≤65536→rightN d.length l=true→RightE (P++l) (d++flatE l)∧(d++flatE l).length≤65536
 | [],P,d,h,hd,_=>by simpa [flatE] using And.intro h hd
 | x :: l,P,d,h,hd,hr=>by
   simp only [rightN,Bool.and_eq_true,decide_eq_true_eq] at hr
   obtain ⟨⟨h1,h2,h3⟩,hr⟩:=hr
   have hs:RightE (P++[x]) (d++List.replicate x.2.1.toNat x.2.2):=RightE.snoc.2 ⟨d,h,h1,h2,rfl⟩
   have hl:(d++List.replicate x.2.1.toNat x.2.2).length=d.length+x.2.1.toNat:=by simp
   have:=rightN_ok l (P++[x]) _ hs (by rw [hl];omega) (by rw [hl,show ((d.length+x.2.1.toNat:Nat):Int)=d.length+x.2.1 by omega];exact hr)
   have e:d++flatE (x :: l)=(d++List.replicate x.2.1.toNat x.2.2)++flatE l:=by
    rw [show flatE (x :: l)=List.replicate x.2.1.toNat x.2.2++flatE l from rfl,List.append_assoc]
   rw [e,show P++x :: l=(P++[x])++l by simp]
   exact this
theorem right_ok {l:List Op3} (h:right l=true):RightE l (flatE l)∧(flatE l).length≤65536:=by
 have:=rightN_ok l [] [] RightE.nil (by simp) h
 simpa using this
theorem RightE.right {E:List Op3} {d:List Int} (h:RightE E d) (hd:d.length≤65536):Proofs.YtffnihooekbcnaaGreat.right E=true:=by
 have key:∀m k,k+m=E.length→rightN ((flatE (E.take k)).length:Int) (E.drop k)=true:=by
  intro m
  induction m with
  | zero=>intro k hk;rw [List.drop_eq_nil_of_le (by omega)];rfl
  | succ m ih =>
    intro k hk
    have hlt:k<E.length:=by omega
    have h2:=h.2 k hlt
    have h3:=ih (k+1) (by omega)
    have h4:=flat_take_le E (k+1)
    rw [h.1] at h4
    rw [flat_step hlt,List.length_append,List.length_replicate] at h3 h4
    rw [rightN_step hlt]
    simp only [Bool.and_eq_true,decide_eq_true_eq]
    refine ⟨⟨h2.1,h2.2,by omega⟩,?_⟩
    rw [show (((flatE (E.take k)).length+(E.getD k z3).2.1.toNat:Nat):Int)=(flatE (E.take k)).length+(E.getD k z3).2.1 by omega] at h3
    exact h3
 have:=key E.length 0 (by omega)
 simpa [Proofs.YtffnihooekbcnaaGreat.right,flatE] using this
theorem right_ofE {d:List Int} (hd:d.length≤65536):right (ofE d)=true:=(RightE.of d).right hd
theorem flat_ofE (d:List Int):flatE (ofE d)=d:=(RightE.of d).1
theorem kinds_ofE {d:List Int} (hd:d.length≤65536):kindsE (ofE d)=d:=by unfold kindsE;rw [if_pos (right_ofE hd),flat_ofE]
theorem kindsE_right {l:List Op3} (h:right l=true):kindsE l=flatE l:=if_pos h
theorem kindsE_not {l:List Op3} (h:right l=false):kindsE l=[]:=by unfold kindsE;rw [h];rfl
theorem RightE.end {E:List Op3} {d:List Int} (h:RightE E d):endE E=d.length:=by
 rcases List.eq_nil_or_concat E with rfl | ⟨L,x,rfl⟩
 ·have hd:d=[]:=h.1.symm
  subst hd
  rfl
 ·rw [List.concat_eq_append] at h ⊢
  obtain ⟨d',_,hx1,hx2,rfl⟩:=RightE.snoc.1 h
  unfold endE
  rw [if_neg (by simp),last_snoc,List.length_append,List.length_replicate]
  omega
def addN (E:List Op3) (m k:Int):List Op3:=if E.length≠0∧(lastE E).2.2=k then E.set (E.length - 1) ((lastE E).1,(lastE E).2.1+m,(lastE E).2.2) else E++[(endE E,m,k)]
theorem addN_step (E:List Op3) (m k:Int):addE (addN E m k) k=addN E (m+1) k:=by
 unfold addN
 by_cases h:E.length≠0∧(lastE E).2.2=k
 ·rw [if_pos h,if_pos h]
  rcases List.eq_nil_or_concat E with rfl | ⟨L,x,rfl⟩
  ·exact absurd rfl h.1
  ·rw [List.concat_eq_append] at h ⊢
   have hk:=h.2
   rw [last_snoc] at hk ⊢
   have e1:(L++[x]).length - 1=L.length:=by simp
   have e2:∀y:Op3,(L++[x]).set L.length y=L++[y]:=fun y=>by rw [List.set_append_right _ _ (Nat.le_refl _)];simp
   rw [e1,e2,e2,hk,addE_same,Int.add_assoc]
 ·rw [if_neg h,if_neg h,addE_same]
theorem addN_ofE (d:List Int) (k:Int):∀m:Nat,addN (ofE d) ((m+1:Nat):Int) k=ofE (d++List.replicate (m+1) k)
 | 0=>by
   rw [show List.replicate (0+1) k=[k] from rfl,ofE_snoc]
   rfl
 | m+1=>by
   rw [List.replicate_succ',←List.append_assoc,ofE_snoc,←addN_ofE d k m,addN_step]
   rfl
theorem ofE_len (d:List Int):(ofE d).length≤d.length:=(RightE.of d).len
theorem cut_step (P:List Int) (q:Nat) (r:Int) (f T:Nat) (h:f≤T):((P++List.replicate q r).take T).drop f=(P.take T).drop f++List.replicate (min ((P.length:Int)+q) T - max (P.length:Int) f).toNat r:=by
 rw [List.take_append,List.take_replicate,List.drop_append,List.drop_replicate,List.length_take]
 congr 2
 omega
def cutE (l:List Op3) (f n:Int):List Op3:=if right l=true∧1≤n∧0≤f∧n≤(flatE l).length∧f≤(flatE l).length - n then ofE (((flatE l).drop f.toNat).take n.toNat) else []
theorem take_drop_eq (d:List Int) (f n:Nat):(d.take (f+n)).drop f=(d.drop f).take n:=by rw [List.drop_take];congr 1;omega
theorem norm_eq (l:List Op3):cutE l 0 (kindsE l).length=ofE (kindsE l):=by
 unfold cutE
 by_cases h:right l=true
 ·rw [kindsE_right h]
  by_cases h0:(flatE l).length=0
  ·rw [if_neg (fun h'=>by omega)]
   have:flatE l=[]:=List.eq_nil_of_length_eq_zero h0
   rw [this]
   rfl
  ·rw [if_pos ⟨h,by omega,by omega,by omega,by omega⟩]
   simp
 ·rw [if_neg (fun h'=>h h'.1),kindsE_not (by simpa using h)]
  rfl
end Go.Proofs.YtffnihooekbcnaaGreat
namespace Go.Proofs.YtffnihooekbcnaaGreat
open Go.RowKit Go.Maps
theorem sRight_calls (v:Value) (l:List Op3) (w:World) (hv:SlP w v l):Calls Tryz.prog 239 #[v] w fun e w'=>e=.returned (.bool (right l))∧Fr [] w w':=by
 obtain ⟨a,cap,rfl,hlc,hcm,_⟩:=hv.open
 unfold maxLen at hcm
 have H0:Hid (right l=rightN 0 (l.drop 0)):=hidIt rfl
 have Hall:∀n,Hid (rightN n (l.drop l.length)=true):=fun n=>hidIt (by rw [List.drop_eq_nil_of_le (Nat.le_refl _)];rfl)
 have Hstep:∀(n:Nat) (k:Nat),k<l.length→Hid (rightN n (l.drop k)=((decide ((l.getD k z3).1=(n:Int)) && (decide (1≤(l.getD k z3).2.1) && decide ((l.getD k z3).2.1≤65536 - (n:Int)))) && rightN (n+(l.getD k z3).2.1) (l.drop (k+1)))):=fun n k h=>hidIt (rightN_step h)
 generalize right l=res at *
 go_enter Tryz.func239,Tryz.ntmps239
 go_wp2_with fail
 go_loopw [3,5,8] (fun nx _ i wr=>∃k n:Nat,k≤l.length∧i=.int .i64 k∧nx=.int .i64 n∧n≤65536∧Hid (res=rightN n (l.drop k))∧Fr [] w wr) (fun _ _ i _=>l.length - (intOf i).toNat)
 case atStart=>exact ⟨0,0,Nat.zero_le _,rfl,rfl,by omega,H0,Fr.refl _ _⟩
 case round =>
  clear H0
  obtain ⟨k,n,hk,rfl,rfl,hn,hr,hF⟩:=hrel
  by_cases hlt:k<l.length
  ·obtain ⟨b,off,rfl,hb,c0,c1,c2⟩:=SlP.at (hv.fr0 hF) hlt
   have hs:=Hstep n k hlt
   generalize l.getD k z3=x at *
   obtain ⟨p,q,r⟩:=x
   simp only at c0 c1 c2 hs
   clear Hstep Hall
   by_cases h1:p=(n:Int)
   ·subst h1
    by_cases h2:q<1
    ·have Hr:Hid (res=false):=hidIt (by rw [hr.out,hs.out,show decide (1≤q)=false by simp;omega];simp)
     clear hs hr
     go_wp2
     go_ret
     exact ⟨ret_bool Hr.out.symm,hF.alloc _⟩
    ·by_cases h3:65536 - (n:Int)<q
     ·have Hr:Hid (res=false):=hidIt (by rw [hr.out,hs.out,show decide (q≤65536 - (n:Int))=false by simp;omega];simp)
      clear hs hr
      go_wp2
      go_ret
      exact ⟨ret_bool Hr.out.symm,hF.alloc _⟩
     ·obtain ⟨Q,rfl⟩:=Int.eq_ofNat_of_zero_le (by omega:0≤q)
      have Hr:Hid (res=rightN ((n+Q:Nat):Int) (l.drop (k+1))):=hidIt (by rw [hr.out,hs.out,show decide ((Q:Int)≤65536 - (n:Int))=true by simp;omega,show decide (1≤(Q:Int))=true by simp;omega];simp)
      clear hs hr
      have hw1:IntKind.i64.wrap ((n:Int)+(Q:Int))=(n:Int)+(Q:Int):=IntWalk.i64_in _ (by omega)
      go_wp2
      go_roundw
      case rel=>exact ⟨k+1,n+Q,by omega,by go_num,by go_num,by omega,Hr,hF.alloc _⟩
      case measure=>simp [intOf];omega
   ·have Hr:Hid (res=false):=hidIt (by rw [hr.out,hs.out,show decide (p=(n:Int))=false by simpa using h1];simp)
    have hne:((p:Int) == (n:Int))=false:=by simpa using h1
    clear hs hr
    go_wp2
    go_ret
    exact ⟨ret_bool Hr.out.symm,hF.alloc _⟩
  ·have hke:k=l.length:=by omega
   subst hke
   have Hr:Hid (res=true):=hidIt (by rw [hr.out,(Hall _).out])
   clear hr Hall Hstep
   go_wp2
   go_ret
   exact ⟨ret_bool Hr.out.symm,hF⟩
theorem sLong_calls (v:Value) (l:List Op3) (w:World) (hv:SlP w v l):Calls Tryz.prog 209 #[v] w fun e w'=>e=.returned (.int .i64 ((kindsE l).length:Int))∧Fr [] w w':=by
 by_cases hr:right l=true
 ·have hR:=right_ok hr
  have He:Hid (endE l=(kindsE l).length):=hidIt (by rw [kindsE_right hr];exact hR.1.end)
  have hsm:=hR.1.small (by omega)
  obtain ⟨a,cap,rfl,_,_,_⟩:=hv.open
  go_enter Tryz.func209,Tryz.ntmps209
  go_wp2_with fail
  refine (sRight_calls _ l w hv).mono ?_
  rintro e w1 ⟨rfl,hf⟩
  rw [hr]
  go_wp2_with fail
  refine (send_calls _ l w1 (SlF.fr0 hv hf) hsm).mono ?_
  rintro e w2 ⟨rfl,hf2⟩
  go_wp2
  go_ret
  exact ⟨ret_int He.out,hf.trans0 hf2⟩
 ·have hr':right l=false:=by simpa using hr
  have He:Hid ((kindsE l).length=0):=hidIt (by rw [kindsE_not hr'];rfl)
  obtain ⟨a,cap,rfl,_,_,_⟩:=hv.open
  go_enter Tryz.func209,Tryz.ntmps209
  go_wp2_with fail
  refine (sRight_calls _ l w hv).mono ?_
  rintro e w1 ⟨rfl,hf⟩
  rw [hr']
  go_wp2
  go_ret
  exact ⟨ret_int (by rw [He.out];rfl),hf⟩
theorem addN_calls (base:Nat) (v:Value) (E:List Op3) (m k:Int) (w:World) (hown:w.ownsRow base 268 3 v E.length (E.flatMap op3C)) (hs:smallE E) (hn:E.length≤1000000) (hb:base≤w.heap.size) (hm:1≤m∧m≤1000000) :
 Calls Tryz.prog 210 #[v,.int .i64 m,.int .i64 k] w fun e w'=>∃v',e=.returned v'∧w'.ownsRow base 268 3 v' (addN E m k).length ((addN E m k).flatMap op3C)∧Fr v.ownBlock.toList w w'∧∀x,v'.ownBlock=some x→v.ownBlock=some x∨w.heap.size≤x:=by
 have hm1:¬m<1:=by omega
 by_cases h0:E.length=0
 ·have hE:E=[]:=List.eq_nil_of_length_eq_zero h0
  subst hE
  clear h0 hn
  have hsl:SlP w v []:=SlF.of_owns hown
  obtain ⟨a,cap,rfl,_,_,_⟩:=Sl.of_owns hown
  have ha:Hid (addN [] m k=[(0,m,k)]):=hidIt (by unfold addN endE;simp)
  have key:=send_calls _ [] w hsl hs
  have he:endE []=0:=rfl
  rw [he] at key
  simp only [List.length_nil,List.flatMap_nil] at hown key ⊢
  go_enter Tryz.func210,Tryz.ntmps210
  go_wp2_with fail
  refine key.mono ?_
  rintro e w1 ⟨rfl,hf⟩
  have hown1:=owns_fr hown hf (by simp)
  have hsz:=hf.size
  have hob:=own_base hown
  clear key hsl hs
  go_wp2_with (at_builtin;refine Hid.out ?_)
  refine hidIt ?_
  refine wpList_append1 225 268 (.agg #[.int .i64 0,.int .i64 0,.int .i64 0]) 3 24 Tryz.underlying225 infoExt rfl (by decide) (by decide) rfl _ _ rfl base (.slice a 0 cap) 0 [] rfl (hown1.alloc _) (op3C (0,m,k)) rfl ext_one w1.heap.size rfl (Blk.new _ _ _) (by omega) (by simp;omega) ?_
  intro v' w2 hown2 hgrow hloc
  go_wp2
  go_ret
  refine ⟨v',rfl,?_,((hf.weak).alloc _).grown hgrow (fun x hx=>.inl (by rw [hx];simp)),fun x hx=>by rcases hloc with h | h <;> rw [h] at hx;exact .inl hx;cases hx;exact .inr (by simp;omega)⟩
  rw [ha.out]
  simpa using hown2
 ·obtain ⟨g,cap,rfl,hgb,_⟩:=owns_succ hown (by omega)
  have hlt:E.length - 1<E.length:=by omega
  have hsl:SlP w (.slice (some ⟨g,0,none⟩) E.length cap) E:=SlF.of_owns hown
  have hx:=getD_some z3 hlt
  have hat:∀j u,(op3C (E.getD (E.length - 1) z3))[j]? = some u→j<3→(E.flatMap op3C)[(E.length - 1)*3+j]? = some u:=fun j u hu hj=>by
   rw [flat_at op3C 3 (fun _=>rfl) E _ j hj,hx];exact hu
  have hlast:=hs.last h0
  have d1:=owns_at hown (hat 1 _ rfl (by omega))
  have d2:=owns_at hown (hat 2 _ rfl (by omega))
  have hset:=fun y=>hidIt (flatE_set1 E (E.length - 1) hlt (E.getD (E.length - 1) z3).1 (E.getD (E.length - 1) z3).2.1 (E.getD (E.length - 1) z3).2.2 y hx)
  have ha:Hid (addN E m k=if E.length≠0∧(lastE E).2.2=k then E.set (E.length - 1) ((lastE E).1,(lastE E).2.1+m,(lastE E).2.2) else E++[(endE E,m,k)]):=hidIt (by unfold addN;rfl)
  have key:=send_calls _ E w hsl hs
  unfold lastE at ha hlast
  clear hat hx hsl hs
  generalize E.getD (E.length - 1) z3=x at *
  obtain ⟨p,q,r⟩:=x
  simp only at d1 d2 hset ha hlast
  generalize endE E=en at *
  have e1:(E.length:Int) - 1=((E.length - 1:Nat):Int):=by omega
  have hwq:IntKind.i64.wrap (q+m)=q+m:=IntWalk.i64_in _ (by omega)
  by_cases hr:r=k
  ·subst hr
   rw [if_pos ⟨h0,rfl⟩] at ha
   obtain ⟨d1,f1⟩:=d1
   obtain ⟨d2,f2⟩:=d2
   clear key
   go_enter Tryz.func210,Tryz.ntmps210
   go_wp2
   go_ret
   refine ⟨_,rfl,?_,(Fr.refl _ w).setCell (.inl (by simp [Value.ownBlock])) _,fun x hx=>.inl hx⟩
   rw [ha.out,List.length_set,(hset (q+m)).out]
   exact owns_put hown _ _
  ·rw [if_neg (fun h=>hr h.2)] at ha
   obtain ⟨d1,f1⟩:=d1
   obtain ⟨d2,f2⟩:=d2
   clear hset
   go_enter Tryz.func210,Tryz.ntmps210
   go_wp2_with fail
   refine key.mono ?_
   rintro e w1 ⟨rfl,hf⟩
   have hown1:=owns_fr hown hf (by simp)
   have hsz:=hf.size
   clear key
   go_wp2_with (at_builtin;refine Hid.out ?_)
   refine hidIt ?_
   refine wpList_append1 225 268 (.agg #[.int .i64 0,.int .i64 0,.int .i64 0]) 3 24 Tryz.underlying225 infoExt rfl (by decide) (by decide) rfl _ _ rfl base (.slice (some ⟨g,0,none⟩) E.length cap) E.length (E.flatMap op3C) rfl (hown1.alloc _) (op3C (en,m,k)) rfl ext_one w1.heap.size rfl (Blk.new _ _ _) (by omega) (by simp;omega) ?_
   intro v' w2 hown2 hgrow hloc
   go_wp2
   go_ret
   refine ⟨v',rfl,?_,((hf.weak).alloc _).grown hgrow (fun x hx=>.inl (by rw [hx];simp)),fun x hx=>by rcases hloc with h | h <;> rw [h] at hx;exact .inl hx;cases hx;exact .inr (by simp;omega)⟩
   rw [ha.out]
   simp only [List.length_append,List.length_singleton,List.flatMap_append,List.flatMap_cons,List.flatMap_nil,List.append_nil]
   exact hown2
/-- add,by the kinds of the places -/
theorem sadd_calls (base:Nat) (v:Value) (d:List Int) (m k:Int) (w:World) (hown:w.ownsRow base 268 3 v (ofE d).length ((ofE d).flatMap op3C)) (hd:d.length≤1000000) (hm:m≤1000000) (hb:base≤w.heap.size) :
 Calls Tryz.prog 210 #[v,.int .i64 m,.int .i64 k] w fun e w'=>∃v',e=.returned v'∧w'.ownsRow base 268 3 v' (ofE (d++List.replicate m.toNat k)).length ((ofE (d++List.replicate m.toNat k)).flatMap op3C)∧Fr v.ownBlock.toList w w'∧∀x,v'.ownBlock=some x→v.ownBlock=some x∨w.heap.size≤x:=by
 by_cases h1:m<1
 ·have e:m.toNat=0:=by omega
  rw [e]
  have hown':w.ownsRow base 268 3 v (ofE (d++List.replicate 0 k)).length ((ofE (d++List.replicate 0 k)).flatMap op3C):=by simpa using hown
  obtain ⟨a,cap,rfl,_,_,_⟩:=Sl.of_owns hown
  go_enter Tryz.func210,Tryz.ntmps210
  go_wp2
  go_ret
  exact ⟨_,rfl,hown',Fr.refl _ _,fun x hx=>.inl hx⟩
 ·obtain ⟨j,hj⟩:∃j:Nat,m=((j+1:Nat):Int):=⟨m.toNat - 1,by omega⟩
  subst hj
  have hR:=RightE.of d
  refine (addN_calls base v (ofE d) _ k w hown (hR.small hd) (by have:=ofE_len d;omega) hb (by omega)).mono ?_
  rw [addN_ofE,Int.toNat_natCast]
  exact fun e w' h=>h
theorem cutE_no {l:List Op3} {f n:Int} (h:¬(right l=true∧1≤n∧0≤f∧n≤(flatE l).length∧f≤(flatE l).length - n)):cutE l f n=[]:=by unfold cutE;rw [if_neg h]
theorem sCut_yes (v:Value) (l:List Op3) (F M:Nat) (w:World) (hv:SlP w v l) (hr:right l=true) (h1:1≤M) (h3:M≤(flatE l).length) (h4:F≤(flatE l).length - M) :
 Calls Tryz.prog 208 #[v,.int .i64 F,.int .i64 M] w fun e w'=>∃v',e=.returned v'∧SlP w' v' (cutE l F M)∧Fr [] w w'∧∀k,v'.ownBlock=some k→w.heap.size≤k:=by
 obtain ⟨hR,hle⟩:=right_ok hr
 have hend:=hR.end
 have hsm:=hR.small (by omega)
 have hll:=hR.len
 have He:Hid (cutE l F M=ofE (((flatE l).take (F+M)).drop F)):=hidIt (by unfold cutE;rw [if_pos ⟨hr,by omega,by omega,by omega,by omega⟩,Int.toNat_natCast,Int.toNat_natCast,take_drop_eq])
 have Hx:∀k,k<l.length→Hid ((l.getD k z3).1=((flatE (l.take k)).length:Int)∧1≤(l.getD k z3).2.1∧(flatE (l.take k)).length+(l.getD k z3).2.1≤65536):=fun k hk=>hidIt (by
  have g1:=hR.2 k hk
  have g2:=flat_take_le l (k+1)
  rw [flat_step hk,List.length_append,List.length_replicate] at g2
  omega)
 have Hst:∀k,k<l.length→Hid (((flatE (l.take (k+1))).take (F+M)).drop F=((flatE (l.take k)).take (F+M)).drop F++List.replicate (min (((flatE (l.take k)).length:Int)+(l.getD k z3).2.1) ((F:Int)+M) - max ((flatE (l.take k)).length:Int) F).toNat (l.getD k z3).2.2):=fun k hk=>hidIt (by
  have g1:=(Hx k hk).out.2.1
  rw [flat_step hk,cut_step _ _ _ _ _ (by omega)]
  congr 3
  omega)
 have Hle:∀k,k≤l.length→Hid ((((flatE (l.take k)).take (F+M)).drop F).length≤65536):=fun k hk=>hidIt (by
  have g2:=flat_take_le l k
  simp
  omega)
 have H0:((flatE (l.take 0)).take (F+M)).drop F=[]:=by simp [flatE]
 have Hd:Hid (((flatE (l.take l.length)).take (F+M)).drop F=((flatE l).take (F+M)).drop F):=hidIt (by rw [List.take_length])
 generalize ((flatE l).take (F+M)).drop F=Z at *
 have keyE:=fun w hv=>send_calls v l w hv hsm
 rw [hend] at keyE
 have keyR:=fun w hv=>sRight_calls v l w hv
 rw [hr] at keyR
 have c1:¬(M:Int)<1:=by omega
 have c2:¬(F:Int)<0:=by omega
 have c3:¬((flatE l).length:Int)<(M:Int):=by omega
 have c4:¬((flatE l).length:Int) - (M:Int)<(F:Int):=by omega
 clear hend hR
 generalize (flatE l).length=T at *
 generalize hD:(fun k=>((flatE (l.take k)).take (F+M)).drop F)=D at *
 replace H0:D 0=[]:=by rw [←hD];exact H0
 replace Hd:Hid (D l.length=Z):=by rw [←hD];exact Hd
 replace Hle:∀k,k≤l.length→Hid ((D k).length≤65536):=by rw [←hD];exact Hle
 generalize hA:(fun k=>(flatE (l.take k)).length)=A at *
 replace Hst:∀k,k<l.length→Hid (D (k+1)=D k++List.replicate (min ((A k:Int)+(l.getD k z3).2.1) ((F:Int)+M) - max (A k:Int) F).toNat (l.getD k z3).2.2):=by rw [←hD,←hA];exact Hst
 replace Hx:∀k,k<l.length→Hid ((l.getD k z3).1=(A k:Int)∧1≤(l.getD k z3).2.1∧A k+(l.getD k z3).2.1≤65536):=by rw [←hA];exact Hx
 clear hD hA
 obtain ⟨a,cap,rfl,hlc,hcm,_⟩:=hv.open
 unfold maxLen at hcm
 go_enter Tryz.func208,Tryz.ntmps208
 go_wp2_with fail
 refine (keyR w hv).mono ?_
 rintro e w1 ⟨rfl,hf1⟩
 go_wp2_with fail
 refine (keyE w1 (SlF.fr0 hv hf1)).mono ?_
 rintro e w2 ⟨rfl,hf2⟩
 have hF2:=hf1.trans0 hf2
 go_wp2_with fail
 refine (keyE w2 (SlF.fr0 hv hF2)).mono ?_
 rintro e w3 ⟨rfl,hf3⟩
 have hF3:=hF2.trans0 hf3
 clear hf1 hf2 hf3 hF2 keyR keyE
 go_wp2_with fail
 rename_i hcnd _ _
 clear hcnd c1 c2 c3 c4
 have hsz3:=hF3.size
 go_loopw [7,9,10,11,39] (fun o _ _ _ i wr=>∃k:Nat,k≤l.length∧i=.int .i64 k∧wr.ownsRow w.heap.size 268 3 o (ofE (D k)).length ((ofE (D k)).flatMap op3C)∧Fr [] w wr) (fun _ _ _ _ i _=>l.length - (intOf i).toNat)
 case atStart=>exact ⟨0,Nat.zero_le _,rfl,by rw [H0];exact World.ownsRow_nil _ _ _ _,hF3⟩
 case round =>
  clear hF3 hsz3
  obtain ⟨k,hk,rfl,hown,hF⟩:=hrel
  have hob:=own_base hown
  have hsz:=hF.size
  by_cases hlt:k<l.length
  ·obtain ⟨b,off,rfl,hb,d0,d1,d2⟩:=SlP.at (hv.fr0 hF) hlt
   have hx:=Hx k hlt
   have hs:=Hst k hlt
   have hle':=Hle k hk
   generalize l.getD k z3=x at *
   obtain ⟨p,q,r⟩:=x
   simp only at d0 d1 d2 hs hx
   obtain ⟨hx1,hx2,hx3⟩:=hx.out
   subst hx1
   clear Hx Hst Hle hx H0 Hd He
   generalize A k=P at *
   generalize D k=E at *
   have hw1:IntKind.i64.wrap ((P:Int)+q)=(P:Int)+q:=IntWalk.i64_in _ (by omega)
   have hw2:IntKind.i64.wrap ((F:Int)+(M:Int))=(F:Int)+(M:Int):=IntWalk.i64_in _ (by omega)
   go_wp2_with fail
   go_quiet (fail)
   generalize hlo:(if P<F then (F:Int) else (P:Int))=lo at *
   generalize hhi:(if (F:Int)+(M:Int)<(P:Int)+q then (F:Int)+(M:Int) else (P:Int)+q)=hi at *
   have hs':Hid (D (k+1)=E++List.replicate (hi - lo).toNat r):=hidIt (by
    have e:min ((P:Int)+q) ((F:Int)+M) - max (P:Int) F=hi - lo:=by rw [←hhi,←hlo];split <;> split <;> omega
    rw [hs.out,e])
   have hlo1:0≤lo:=by rw [←hlo];split <;> omega
   have hhi1:0≤hi∧hi≤65536:=by rw [←hhi];constructor <;> split <;> omega
   have hlo2:lo≤65536:=by rw [←hlo];split <;> omega
   clear hs hlo hhi
   have hw3:IntKind.i64.wrap (hi - lo)=hi - lo:=IntWalk.i64_in _ (by omega)
   go_wp2_with fail
   refine (sadd_calls w.heap.size u7 E (hi - lo) r _ ((owns_drewN (hown.alloc _) _)) (by have:=hle'.out;omega) (by omega) (by simp;omega)).mono ?_
   rintro e w4 ⟨v4,rfl,hown4,hf4,_⟩
   go_wp2
   go_roundw
   case rel=>exact ⟨k+1,by omega,by go_num,by rw [hs'.out];exact hown4,((hF.alloc _).drewN _).trans hf4 (fun x hx hl=>by have:=hob x (by simpa using hx);omega)⟩
   case measure=>simp [intOf];omega
  ·have hke:k=l.length:=by omega
   have Hz:Hid (ofE (D k)=cutE l F M):=hidIt (by rw [hke,Hd.out,He.out])
   have hsl:SlP wr u7 (ofE (D k)):=SlF.of_owns hown
   clear hown Hst Hx Hle H0 Hd He hke
   go_wp2
   go_ret
   exact ⟨u7,rfl,by rw [←Hz.out];exact hsl,hF,hob⟩
theorem sCut_calls (v:Value) (l:List Op3) (f n:Int) (w:World) (hv:SlP w v l):Calls Tryz.prog 208 #[v,.int .i64 f,.int .i64 n] w fun e w'=>∃v',e=.returned v'∧SlP w' v' (cutE l f n)∧Fr [] w w'∧∀k,v'.ownBlock=some k→w.heap.size≤k:=by
 by_cases hc:right l=true∧1≤n∧0≤f∧n≤(flatE l).length∧f≤(flatE l).length - n
 ·obtain ⟨hr,h1,h2,h3,h4⟩:=hc
  obtain ⟨F,rfl⟩:=Int.eq_ofNat_of_zero_le h2
  obtain ⟨M,rfl⟩:=Int.eq_ofNat_of_zero_le (by omega:0≤n)
  exact sCut_yes v l F M w hv hr (by omega) (by omega) (by omega)
 ·rw [cutE_no hc]
  have keyR:=fun w hv=>sRight_calls v l w hv
  by_cases hr:right l=true
  ·obtain ⟨hR,hle⟩:=right_ok hr
   have hend:=hR.end
   have hsm:=hR.small (by omega)
   have keyE:=fun w hv=>send_calls v l w hv hsm
   rw [hend] at keyE
   rw [hr] at keyR
   have hc':¬(1≤n∧0≤f∧n≤(flatE l).length∧f≤(flatE l).length - n):=fun h=>hc ⟨hr,h⟩
   clear hend hR hc hsm
   generalize (flatE l).length=T at *
   obtain ⟨a,cap,rfl,hlc,hcm,_⟩:=hv.open
   by_cases c1:n<1
   ·clear hc' keyE
    go_enter Tryz.func208,Tryz.ntmps208
    go_wp2_with fail
    refine (keyR w hv).mono ?_
    rintro e w1 ⟨rfl,hf1⟩
    go_wp2
    go_ret
    exact ⟨_,rfl,Sl.nil _,hf1,fun _ h=>by cases h⟩
   ·by_cases c2:f<0
    ·clear hc' keyE
     go_enter Tryz.func208,Tryz.ntmps208
     go_wp2_with fail
     refine (keyR w hv).mono ?_
     rintro e w1 ⟨rfl,hf1⟩
     go_wp2
     go_ret
     exact ⟨_,rfl,Sl.nil _,hf1,fun _ h=>by cases h⟩
    ·by_cases c3:(T:Int)<n
     ·clear hc'
      go_enter Tryz.func208,Tryz.ntmps208
      go_wp2_with fail
      refine (keyR w hv).mono ?_
      rintro e w1 ⟨rfl,hf1⟩
      go_wp2_with fail
      refine (keyE w1 (SlF.fr0 hv hf1)).mono ?_
      rintro e w2 ⟨rfl,hf2⟩
      go_wp2
      go_ret
      exact ⟨_,rfl,Sl.nil _,hf1.trans0 hf2,fun _ h=>by cases h⟩
     ·have c4:(T:Int) - n<f:=by omega
      have hw1:IntKind.i64.wrap ((T:Int) - n)=(T:Int) - n:=IntWalk.i64_in _ (by omega)
      clear hc'
      go_enter Tryz.func208,Tryz.ntmps208
      go_wp2_with fail
      refine (keyR w hv).mono ?_
      rintro e w1 ⟨rfl,hf1⟩
      go_wp2_with fail
      refine (keyE w1 (SlF.fr0 hv hf1)).mono ?_
      rintro e w2 ⟨rfl,hf2⟩
      have hF2:=hf1.trans0 hf2
      go_wp2_with fail
      refine (keyE w2 (SlF.fr0 hv hF2)).mono ?_
      rintro e w3 ⟨rfl,hf3⟩
      go_wp2
      go_ret
      exact ⟨_,rfl,Sl.nil _,hF2.trans0 hf3,fun _ h=>by cases h⟩
  ·have hr':right l=false:=by simpa using hr
   rw [hr'] at keyR
   obtain ⟨a,cap,rfl,hlc,hcm,_⟩:=hv.open
   go_enter Tryz.func208,Tryz.ntmps208
   go_wp2_with fail
   refine (keyR w hv).mono ?_
   rintro e w1 ⟨rfl,hf1⟩
   go_wp2
   go_ret
   exact ⟨_,rfl,Sl.nil _,hf1,fun _ h=>by cases h⟩
theorem sNorm_calls (v:Value) (l:List Op3) (w:World) (hv:SlP w v l):Calls Tryz.prog 189 #[v] w fun e w'=>∃v',e=.returned v'∧SlP w' v' (ofE (kindsE l))∧Fr [] w w'∧∀k,v'.ownBlock=some k→w.heap.size≤k:=by
 have key:=fun w hv=>sCut_calls v l 0 (kindsE l).length w hv
 rw [norm_eq] at key
 obtain ⟨a,cap,rfl,hlc,hcm,_⟩:=hv.open
 go_enter Tryz.func189,Tryz.ntmps189
 go_wp2_with fail
 refine (sLong_calls _ l w hv).mono ?_
 rintro e w1 ⟨rfl,hf1⟩
 go_wp2_with fail
 refine (key w1 (SlF.fr0 hv hf1)).mono ?_
 rintro e w2 ⟨v2,rfl,hs2,hf2,hb2⟩
 have hsz:=hf1.size
 go_wp2
 go_ret
 exact ⟨v2,rfl,hs2,hf1.trans0 hf2,fun k hk=>Nat.le_trans hsz (hb2 k hk)⟩
end Go.Proofs.YtffnihooekbcnaaGreat
