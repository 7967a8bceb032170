/-
  Package files: Create, Rename.
-/
import Derived.Test.YtffnihooekbcnaaGreatG24
set_option linter.unusedVariables false
set_option maxRecDepth 100000
set_option maxHeartbeats 6400000
namespace Go.Proofs.YtffnihooekbcnaaGreat
open Go.RowKit Go.Maps
attribute [local go_sem] mapAt_alloc mapAt_setCell mapAt_drew mapAt_drewN cells_str store_str eql_str neq_str guard_str len_str
section
variable {w w':World} {fb mb:Nat} {l:List (By × Nat)}
def fiCrePost (w:World) (fb mb:Nat) (l:List (By × Nat)) (s:By) (e:Ending) (w':World):Prop :=
 ∃sb sm nm,e=.returned (.tuple #[.pointer (some ⟨sb,0,none⟩),.int .i64 0])∧StoW w' sb sm nm (.slice none 0 0) 512 (fun _=>none) (fun _=>none)∧(w.heap.size≤sb∧w.heap.size≤sm∧w.heap.size≤nm)∧FilW w' fb mb (putF l s sb)∧Fr [mb] w w'
theorem fiCreate_calls (s:By) (h:FilW w fb mb l) (hs:okName s=true) (hb:fF l s=none) (hne:fb≠mb) (hl:l.length<16):Calls Tryz.prog 170 #[.pointer (some ⟨fb,0,none⟩),strL s,.int .i64 512] w (fiCrePost w fb mb l s):=by
 have c:=h.blk.cell
 have hsl:s.length≤maxLen:=by have:=okName_len hs;unfold maxLen;omega
 have kN:Calls Tryz.prog 197 #[.int .i64 512,.int .i64 4096] w (stNewPost w 512):=stNew_calls (N:=512) w (by decide)
 unfold stNewPost at kN
 have kR:=fun X=>nRight_calls s X
 rw [hs] at kR
 obtain ⟨S,hS⟩:∃S,Hid (strL s=Value.string S):=⟨_,hidIt rfl⟩
 rw [hS.out] at kR ⊢
 go_enter Tryz.func170,Tryz.ntmps170
 go_wp2_with fail
 refine kN.mono ?_
 rintro e w1 ⟨sb,sm,nm,rfl,hSt,hlo,hf1⟩
 clear kN
 go_wp2_with fail
 refine (kR _).mono ?_
 rintro e w2 ⟨rfl,hf2⟩
 clear kR
 have hF2:=hf1.trans0 hf2
 have h2:=h.fr0 hF2
 have hlk:=h2.look hsl
 rw [hb,hS.out] at hlk
 unfold fpt at hlk
 have hsz:=h2.size
 have hl16:¬(16:Int)≤(l.length:Int):=by omega
 obtain ⟨w3,hup,h3,hf3⟩:=h2.put hsl sb hne
 rw [hS.out] at hup
 have c2:=h2.blk.cell
 have hlt:=h.lt
 have hSt3:=(hSt.fr0 hf2).fr hf3 (by simp;omega) (by simp;omega) (by simp;omega)
 have hfin:=hidIt (And.intro hSt3 (And.intro h3 ((hF2.weak (L:=[mb])).trans' hf3)))
 clear hSt hSt3 h3 h2 h
 go_wp2
 go_ret2
 exact ⟨sb,sm,nm,rfl,hfin.out.1,hlo,hfin.out.2.1,hfin.out.2.2⟩
theorem fiRename_calls (s t:By) (b:Nat) (h:FilW w fb mb l) (hs:okName s=true) (ht:okName t=true) (hb:fF l s=some b) (hne:fb≠mb):Calls Tryz.prog 172 #[.pointer (some ⟨fb,0,none⟩),strL s,strL t] w fun e w'=>e=.returned (.int .i64 0)∧FilW w' fb mb (putF (rmF l s) t b)∧Fr [mb] w w':=by
 have hsl:s.length≤maxLen:=by have:=okName_len hs;unfold maxLen;omega
 have htl:t.length≤maxLen:=by have:=okName_len ht;unfold maxLen;omega
 have kR:=nRight_calls t w
 rw [ht] at kR
 have kO:=fun X (hX:Fr [] w X)=>fiOpen_yes s b (h.fr0 hX) hsl hb
 obtain ⟨S,hS⟩:∃S,Hid (strL s=Value.string S):=⟨_,hidIt rfl⟩
 obtain ⟨T,hT⟩:∃T,Hid (strL t=Value.string T):=⟨_,hidIt rfl⟩
 rw [hS.out] at kO ⊢
 rw [hT.out] at kR ⊢
 go_enter Tryz.func172,Tryz.ntmps172
 go_wp2_with fail
 refine kR.mono ?_
 rintro e w1 ⟨rfl,hf1⟩
 clear kR
 go_wp2_with fail
 refine (kO _ hf1).mono ?_
 rintro e w2 ⟨rfl,hw⟩
 rw [hw]
 clear hw w2 kO
 have h1:=h.fr0 hf1
 obtain ⟨w2,hdel,h2,hf2⟩:=h1.del hsl hne
 obtain ⟨w3,hup,h3,hf3⟩:=h2.put htl b hne
 rw [hS.out] at hdel
 rw [hT.out] at hup
 have c1:=h1.blk.cell
 have c2:=h2.blk.cell
 have hfin:=hidIt (And.intro h3 ((hf1.weak (L:=[mb])).trans' (hf2.trans' hf3)))
 clear h h1 h2 h3
 go_wp2
 go_ret
 exact ⟨rfl,hfin.out.1,hfin.out.2⟩
end
theorem idxNone_calls (fv:Value) (w:World):Calls Tryz.prog 104 #[.slice none 0 0,fv] w fun e w'=>e=.returned (.int .i64 (-1))∧w'=w:=by
 go_enter Tryz.func104,Tryz.ntmps104
 go_wp2_with fail
 go_loopw [8] (fun i wr=>i=.int .i64 0∧wr=w) (fun _ _=>0)
 case atStart=>exact ⟨rfl,rfl⟩
 case round =>
 obtain ⟨rfl,rfl⟩:=hrel
 go_wp2
 go_ret
 exact ⟨rfl,rfl⟩
section
variable {w w':World} {fb mb:Nat} {l:List (By × Nat)}
theorem fiCrash_one (s:By) (sb sm nm:Nat) (f:Nat→Option By) (h:FilW w fb mb [(s,sb)]) (hS:StoW w sb sm nm (.slice none 0 0) 512 f f) (hn:fb≠sb∧mb≠sb):Calls Tryz.prog 60 #[.pointer (some ⟨fb,0,none⟩),.slice none 0 0] w fun e w'=>e=.returned (.tuple #[])∧FilW w' fb mb [(s,sb)]∧(∃nm',StoW w' sb sm nm' (.slice none 0 0) 512 f f∧(nm'=nm∨w.heap.size≤nm'))∧Fr [sb] w w':=by
 have c0:=h.blk.cell
 obtain ⟨es,clock,hm,hi⟩:=h.map
 have hlt:=h.lt
 have hlS:=hS.lt
 go_enter Tryz.func60,Tryz.ntmps60
 go_wp2_with (first
  | (at_range;refine wpList_range_isM rfl _ _ rfl Tryz.underlying122 hi mb rfl hm ?_;intro hrg0)
  | go_in)
 go_frame
 have hF0:=(Fr.refl [] w).alloc (.mapIter (some mb) clock #[] clock)
 go_loopw [] (fun wr=>∃K cnt nm',RngM Tryz.prog 9 wr mb w.heap.size (filM [(s,sb)]) K cnt∧StoW wr sb sm nm' (.slice none 0 0) 512 f f∧(nm'=nm∨w.heap.size<nm')∧Fr [sb] w wr) (fun wr=>wr.rangeLeft mb w.heap.size)
 case atStart=>exact ⟨_,_,nm,hrg0,hS.fr0 hF0,.inl rfl,hF0.weak⟩
 case round =>
  clear hrg0 hF0 c0 hm hi
  obtain ⟨K,cnt,nm',hrg,hSr,hnm,hF⟩:=hrel
  have hleft:=hidIt hrg.left
  have hrl:=hrg.lt
  generalize wr=wo at *
  go_wp2_with (first
   | (at_next;refine wpList_next_isM rfl _ rfl mb w.heap.size rfl hrg ?_ ?_)
   | go_in)
  ·intro hK
   have h2:=h.fr hF (by simp;omega) (by simp;omega)
   clear hrg
   go_wp2
   exact bodyPost_end (v:=.tuple #[]) (results_none rfl _ _ _) rfl ⟨rfl,h2,⟨nm',hSr,by omega⟩,hF⟩
  ·intro k v w1 cnt' hK hv hrg1 hlt1 hf1 hsz hen
   have hkv:v=.pointer (some ⟨sb,0,none⟩)∧∃S,k=.string S:=by
    unfold filM at hv
    split at hv
    ·rename_i S
     unfold fF at hv
     by_cases e:s=S.data.toList
     ·simp [e] at hv
      exact ⟨hv.symm,S,rfl⟩
     ·simp [e] at hv
    ·cases hv
   obtain ⟨rfl,S,rfl⟩:=hkv
   clear hv hrg
   have hS1:=hSr.fr hf1 (by simp;omega) (by simp;omega) (by simp;omega)
   have hF1:Fr [sb] w w1:=hF.trans hf1 (fun x hx hl=>by have:=List.mem_singleton.1 hx;omega)
   have kC:=fun X (hX:Fr [] w1 X)=>stCrash_calls (hS1.fr0 hX)
   have kI:=fun fv X=>idxNone_calls fv X
   clear hf1
   go_wp2_with fail
   refine (kI _ _).mono ?_
   rintro e w2 ⟨rfl,hw⟩
   rw [hw]
   clear hw w2
   have hfa:=(Fr.refl [] w1).alloc (.cells #[.string S] 9)
   go_wp2_with fail
   refine (kC _ hfa).mono ?_
   rintro e w3 ⟨rfl,nm2,hnm2,hS3,hf3⟩
   clear kC kI
   have hrg3:=(hrg1.fr0 hfa).fr hf3 (by simp;omega) (by simp;omega)
   have hF3:=hF1.trans' ((hfa.weak).trans' hf3)
   have hzz:w.heap.size+1≤nm2:=by have:(w1.alloc (.cells #[.string S] 9)).heap.size=w1.heap.size+1:=World.size_alloc _ _;omega
   have hl3:=hidIt hrg3.left
   have hfin:=hidIt (And.intro hrg3 (And.intro hS3 hF3))
   clear hrg3 hS3 hF3 hf3 hfa hS1 hF1 hSr hrg1 hS h
   go_wp2
   go_roundw
   case rel=>exact ⟨_,_,nm2,hfin.out.1,hfin.out.2.1,.inr (by omega),hfin.out.2.2⟩
   case measure=>rw [hl3.out,hleft.out];omega
end
def nNew:By:=[108,105,115,116,46,110,101,119]
def nLis:By:=[108,105,115,116]
theorem nNew_ok:okName nNew=true:=by decide
theorem nLis_ok:okName nLis=true:=by decide
structure SavF (w:World) (sb sm nm:Nat) (f:Nat→Option By) (b:By):Prop where
 st:StoW w sb sm nm (.slice none 0 0) 512 f f
 sv:savedG f b
 no:secF f 1=zBy 16
theorem fil_end {l:List (By × Nat)} (h:l=[]∨∃x,l=[(nLis,x)]) (sb:Nat):fF l nNew=none∧l.length<15∧putF (rmF (putF (rmF l nNew) nNew sb) nNew) nLis sb=[(nLis,sb)]:=by
 rcases h with rfl | ⟨x,rfl⟩
 ·refine ⟨rfl,by simp,?_⟩
  simp [putF,rmF]
 ·refine ⟨?_,by simp,?_⟩
  ·simp [fF,nLis,nNew]
  ·simp [putF,rmF,nLis,nNew]
section
variable {w w':World} {o:Nat→Prop} {lb fb mb:Nat} {v:Value} {ys:List Bkv} {l:List (By × Nat)}
def lsComPost (w:World) (fb mb:Nat) (b:By) (e:Ending) (w':World):Prop :=
 e=.returned (.int .i64 0)∧(∃sb sm nm f,FilW w' fb mb [(nLis,sb)]∧SavF w' sb sm nm f b∧(w.heap.size≤sb∧w.heap.size≤sm∧w.heap.size≤nm))∧Fr [mb] w w'
theorem lsCommit_calls (h:LstW w lb o v ys) (hg:∀y∈ys,GoodB y.1) (hl:ys.length≤64) (hsz:(lsB (ys.map (·.1))).length≤4080) (hF:FilW w fb mb l) (hll:l=[]∨∃x,l=[(nLis,x)]) (hne:fb≠mb) (hno:¬o mb) :
 Calls Tryz.prog 125 #[.pointer (some ⟨lb,0,none⟩),.pointer (some ⟨fb,0,none⟩),.int .i64 512] w (lsComPost w fb mb (lsB (ys.map (·.1)))):=by
 have hfe:=fun sb=>fil_end hll sb
 have hns:nNew.length≤maxLen:=by decide
 have kR:=fiRemove_calls nNew hF hns (hfe 0).1 hne
 have e1:strL nNew=Value.string ⟨#[108,105,115,116,46,110,101,119]⟩:=rfl
 have e2:strL nLis=Value.string ⟨#[108,105,115,116]⟩:=rfl
 rw [e1] at kR
 have hlt:=hF.lt
 go_enter Tryz.func125,Tryz.ntmps125
 go_wp2_with fail
 refine kR.mono ?_
 rintro e w1 ⟨rfl,hF1,hf1⟩
 clear kR
 have kC:=fiCreate_calls nNew hF1 nNew_ok (by rw [fF_rm,if_pos rfl]) hne (by have:=(hfe 0).2.1;have:(rmF l nNew).length≤l.length:=List.length_filter_le _ _;omega)
 rw [e1] at kC
 unfold fiCrePost at kC
 go_wp2_with fail
 refine kC.mono ?_
 rintro e w2 ⟨sb,sm,nm,rfl,hS2,hlo2,hF2,hf2⟩
 clear kC hF1
 have hf12:Fr [mb] w w2:=hf1.trans' hf2
 have hL2:=h.fr hf12 (fun k hk hh=>by rw [List.mem_singleton.1 hk] at hh;exact hno hh)
 have kE:=lsEncode_calls hL2 hg hl
 unfold lsEncPost at kE
 go_wp2_with fail
 refine kE.mono ?_
 rintro e w3 ⟨u,rfl,hu,hf3⟩
 clear kE hL2
 have hz1:=hf1.size
 have hz2:=hf12.size
 have kS:=saSave_calls (lsB (ys.map (·.1))) u (hS2.fr0 hf3) (SlF.of_owns hu) hsz
 unfold saSavePost at kS
 go_wp2_with fail
 refine kS.mono ?_
 rintro e w4 ⟨rfl,⟨sm',f,hS4,hsv,hno4,hsm4⟩,hf4⟩
 clear kS hS2
 have hz3:=hf3.size
 have hF4:=(hF2.fr0 hf3).fr hf4 (by simp;omega) (by simp;omega)
 have kN:=fiRename_calls nNew nLis sb hF4 nNew_ok nLis_ok (by rw [fF_put,if_pos rfl]) hne
 rw [e1,e2,(hfe sb).2.2] at kN
 have hf04:Fr [mb] w w4:=(hf12.trans0 hf3).trans hf4 (fun q hq hl=>by simp at hq;omega)
 have hlS:=hS4.lt
 go_wp2_with fail
 refine kN.mono ?_
 rintro e w5 ⟨rfl,hF5,hf5⟩
 clear kN
 have hS5:=hS4.fr hf5 (by simp;omega) (by simp;omega) (by simp;omega)
 go_wp2
 go_ret
 exact ⟨rfl,⟨sb,sm',nm,f,hF5,⟨hS5,hsv,hno4⟩,by omega⟩,hf04.trans' hf5⟩
def lsLoadPost (w:World) (bs:List Bk) (e:Ending) (w':World):Prop :=
 ∃lb o v ys,e=.returned (.tuple #[.pointer (some ⟨lb,0,none⟩),.int .i64 0])∧LstW w' lb o v ys∧ys.map (·.1)=bs∧(∀k,o k→w.heap.size≤k)∧Fr [] w w'
theorem lsLoad_calls (bs:List Bk) (sb sm nm:Nat) (f:Nat→Option By) (hF:FilW w fb mb [(nLis,sb)]) (hS:SavF w sb sm nm f (lsB bs)) (hG:GoodL bs):Calls Tryz.prog 63 #[.pointer (some ⟨fb,0,none⟩)] w (lsLoadPost w bs):=by
 have e2:strL nLis=Value.string ⟨#[108,105,115,116]⟩:=rfl
 have kO:=fiOpen_yes nLis sb hF (by decide) (by simp [fF])
 rw [e2] at kO
 have kL:=saLoad_calls (lsB bs) hS.st hS.sv hS.no
 unfold saLoadPost at kL
 go_enter Tryz.func63,Tryz.ntmps63
 go_wp2_with fail
 refine kO.mono ?_
 rintro e w1 ⟨rfl,hw⟩
 rw [hw]
 clear hw w1 kO
 go_wp2_with fail
 refine kL.mono ?_
 rintro e w2 ⟨u,rfl,hu,hok,_,hf2⟩
 clear kL
 have kD:=lsDecode_calls u bs hu hok hG
 unfold lsDecPost at kD
 have hz:=hf2.size
 go_wp2_with fail
 refine kD.mono ?_
 rintro e w3 ⟨lb,o,v,ys,rfl,hL,hm,ho,hf3⟩
 clear kD
 go_wp2
 go_ret2
 exact ⟨lb,o,v,ys,rfl,hL,hm,fun k hk=>Nat.le_trans hz (ho k hk),hf2.trans0 hf3⟩
end
end Go.Proofs.YtffnihooekbcnaaGreat
namespace Go.Proofs.YtffnihooekbcnaaGreat
open Go.RowKit Go.Maps
structure Sep (w:World) (f:Nat→Nat→Prop):Prop where
 low:∀i k,f i k→k<w.heap.size
 off:∀i j k,i≠j→f i k→¬f j k
def ofC (C:Nat→Prop) (f:Nat→Nat→Prop) (k:Nat):Prop:=∃i,C i∧f i k
def allF (f:Nat→Nat→Prop) (k:Nat):Prop:=∃i,f i k
section
variable {w w':World} {f g:Nat→Nat→Prop} {C:Nat→Prop}
theorem Sep.keep (h:Sep w f) (hst:StepO w (ofC C f) w' (ofC C g)) {i:Nat} (hi:¬C i):∃M,Fr M w w'∧∀k∈M,¬f i k:=by
 obtain ⟨M,hf,hM⟩:=hst.fr
 refine ⟨M,hf,fun k hk hfk=>?_⟩
 obtain ⟨j,hj,hjk⟩:=hM k hk (h.low i k hfk)
 exact h.off j i k (fun e=>hi (e ▸ hj)) hjk hfk
theorem Sep.turn (h:Sep w f) (hst:StepO w (ofC C f) w' (ofC C g)) (hg:∀i,¬C i→g i=f i) (hlow:∀i k,C i→g i k→k<w'.heap.size) (hoff:∀i j k,C i→C j→i≠j→g i k→¬g j k):Sep w' g:=by
 have key:∀i j k,C i→¬C j→g i k→¬f j k:=by
  intro i j k hi hj hik hjk
  rcases hst.new k ⟨i,hi,hik⟩ with ⟨q,hq,hqk⟩ | h1
  ·exact h.off q j k (fun e=>hj (e ▸ hq)) hqk hjk
  ·have:=h.low j k hjk;omega
 refine ⟨fun i k hik=>?_,fun i j k hij hik hjk=>?_⟩
 ·by_cases hi:C i
  ·exact hlow i k hi hik
  ·rw [hg i hi] at hik
   exact Nat.lt_of_lt_of_le (h.low i k hik) hst.size
 ·by_cases hi:C i
  ·by_cases hj:C j
   ·exact hoff i j k hi hj hij hik hjk
   ·rw [hg j hj] at hjk
    exact key i j k hi hj hik hjk
  ·rw [hg i hi] at hik
   by_cases hj:C j
   ·exact key j i k hj hi hjk hik
   ·rw [hg j hj] at hjk
    exact h.off i j k hij hik hjk
theorem Sep.all (hst:StepO w (ofC C f) w' (ofC C g)) (hg:∀i,¬C i→g i=f i):StepO w (allF f) w' (allF g):=by
 obtain ⟨M,hf,hM⟩:=hst.fr
 refine ⟨⟨M,hf,fun k hk hl=>?_⟩,fun k hk=>?_⟩
 ·obtain ⟨i,_,hi⟩:=hM k hk hl
  exact ⟨i,hi⟩
 ·obtain ⟨i,hi⟩:=hk
  by_cases hc:C i
  ·rcases hst.new k ⟨i,hc,hi⟩ with ⟨j,_,hj⟩ | h1
   ·exact .inl ⟨j,hj⟩
   ·exact .inr h1
  ·rw [hg i hc] at hi
   exact .inl ⟨i,hi⟩
theorem ofC_one {c:Nat}:StepO w (f c) w' (g c)→StepO w (ofC (·=c) f) w' (ofC (·=c) g):=by
 intro h
 obtain ⟨M,hf,hM⟩:=h.fr
 refine ⟨⟨M,hf,fun k hk hl=>⟨c,rfl,hM k hk hl⟩⟩,fun k hk=>?_⟩
 obtain ⟨i,rfl,hi⟩:=hk
 rcases h.new k hi with h1 | h1
 ·exact .inl ⟨_,rfl,h1⟩
 ·exact .inr h1
theorem Sep.fr0 (h:Sep w f) (hf:Fr [] w w'):Sep w' f:=⟨fun i k hk=>Nat.lt_of_lt_of_le (h.low i k hk) hf.size,h.off⟩
end
inductive JobS
 | none
 | merge (jb mp:Nat) (b:By) (l:List Bool) (ov:Bool)
 | pull (jb:Nat) (ov:Bool)
 | push (jb lm gm:Nat) (o:Nat→Prop) (l:List Bool) (G:Got) (ov:Bool)
def JobS.kind:JobS→Int
 | .none=>0
 | .merge ..=>1
 | .pull ..=>2
 | .push ..=>3
def JobS.face:JobS→Value
 | .none=>.nilIface
 | .merge jb ..=>.iface 56 (.pointer (some ⟨jb,0,Option.none⟩))
 | .pull jb _=>.iface 89 (.pointer (some ⟨jb,0,Option.none⟩))
 | .push jb ..=>.iface 57 (.pointer (some ⟨jb,0,Option.none⟩))
def JobS.mp:JobS→Value
 | .merge jb ..=>.pointer (some ⟨jb,0,Option.none⟩)
 | _=>.pointer Option.none
def JobS.pp:JobS→Value
 | .push jb ..=>.pointer (some ⟨jb,0,Option.none⟩)
 | _=>.pointer Option.none
def JobS.o:JobS→Nat→Prop
 | .none,_=>False
 | .merge jb mp _ _ _,k=>k=jb∨k=mp
 | .pull jb _,k=>k=jb
 | .push jb lm gm o _ _ _,k=>phO jb lm gm o k
structure SimS where
 wb:Nat
 cb:Nat
 mb:Nat
 db:Nat
 dm:Nat
 fb:Nat
 fm:Nat
 lb:Nat
 n:Nat
 s:By
 L:List Cd
 E:List Cel
 F:Option (Nat × Nat × Nat × (Nat→Option By))
 o:Nat→Prop
 v:Value
 ys:List Bkv
 j:JobS
 nm:By
 pa:By
 zb:Int
 zn:Int
 pv:Option Addr × Nat × Nat
 bm:By
 sc:Option (Nat × Nat × List Bool)
def scP:Option (Nat × Nat × List Bool)→Value
 | some x=>.pointer (some ⟨x.1,0,none⟩)
 | none=>.pointer none
def simC (S:SimS):List Value:=[.int .i64 1,strL S.s,.pointer (some ⟨S.cb,0,none⟩),.pointer (some ⟨S.db,0,none⟩),.pointer (some ⟨S.fb,0,none⟩),.pointer (some ⟨S.lb,0,none⟩),.int .i64 S.j.kind,S.j.face,S.j.mp,S.j.pp,strL S.nm,strL S.pa,.int .i64 S.zb,.int .i64 S.zn,.slice S.pv.1 S.pv.2.1 S.pv.2.2,strL S.bm,scP S.sc]
def filL:Option (Nat × Nat × Nat × (Nat→Option By))→List (By × Nat)
 | some x=>[(nLis,x.1)]
 | none=>[]
def filO (fb fm:Nat) (F:Option (Nat × Nat × Nat × (Nat→Option By))) (k:Nat):Prop:=k=fb∨k=fm∨match F with | some x=>k=x.1∨k=x.2.1∨k=x.2.2.1 | none=>False
structure FilesW (w:World) (fb fm:Nat) (F:Option (Nat × Nat × Nat × (Nat→Option By))) (bs:List Bk):Prop where
 fil:FilW w fb fm (filL F)
 ne:fb≠fm
 sav:∀x,F=some x→SavF w x.1 x.2.1 x.2.2.1 x.2.2.2 (lsB bs)
 emp:F=none→bs=[]
def JobW (w:World) (cb n:Nat) (s:By):JobS→Prop
 | .none=>True
 | .merge jb mp b l ov=>MgW w jb cb mp s b l ov∧jb≠mp∧l.length=n
 | .pull jb ov=>Blk w jb (pullC cb s ov) 153
 | .push jb lm gm o l G ov=>PshW w jb lm gm cb n s o l G ov ov
def SinW (w:World) (n:Nat) (sc:Option (Nat × Nat × List Bool)):Prop:=∀x,sc=some x→BitW w x.1 x.2.1 (2*n) 1 x.2.2
def sinO (sc:Option (Nat × Nat × List Bool)) (k:Nat):Prop:=match sc with | some x=>k=x.1∨k=x.2.1 | none=>False
def simF (S:SimS):Nat→Nat→Prop
 | 0,k=>k=S.wb
 | 1,k=>chO S.cb S.mb S.L k
 | 2,k=>k∈homes S.db S.dm S.E
 | 3,k=>filO S.fb S.fm S.F k
 | 4,k=>S.o k
 | 5,k=>S.j.o k
 | 6,k=>sinO S.sc k
 | _+7,_=>False
theorem sinO_some {sc:Option (Nat × Nat × List Bool)} {x:Nat × Nat × List Bool} (h:sc=some x) (k:Nat):sinO sc k ↔ (k=x.1∨k=x.2.1):=by
 unfold sinO
 rw [h]
structure SimW (w:World) (S:SimS):Prop where
 blk:Blk w S.wb (simC S) 65
 ch:ChG noEx w S.cb S.mb 1 60 S.L
 dir:DirW w S.db S.dm S.E
 fil:FilesW w S.fb S.fm S.F (S.ys.map (·.1))
 lst:LstW w S.lb S.o S.v S.ys
 job:JobW w S.cb S.n S.s S.j
 sin:SinW w S.n S.sc
 sep:Sep w (simF S)
section
variable {w w':World} {S:SimS} {C:Nat→Prop} {g:Nat→Nat→Prop} {M:List Nat}
theorem FilesW.fr {fb fm:Nat} {F:Option (Nat × Nat × Nat × (Nat→Option By))} {bs:List Bk} (h:FilesW w fb fm F bs) (hf:Fr M w w') (hM:∀k∈M,¬filO fb fm F k):FilesW w' fb fm F bs :=
 ⟨h.fil.fr hf (fun hm=>hM _ hm (.inl rfl)) (fun hm=>hM _ hm (.inr (.inl rfl))),h.ne,fun x hx=>by
  have hs:=h.sav x hx
  have hq:∀k,(k=x.1∨k=x.2.1∨k=x.2.2.1)→k ∉ M:=fun k hk hm=>hM k hm (.inr (.inr (by rw [hx];exact hk)))
  exact ⟨hs.st.fr hf (hq _ (.inl rfl)) (hq _ (.inr (.inl rfl))) (hq _ (.inr (.inr rfl))),hs.sv,hs.no⟩,h.emp⟩
theorem JobW.fr {cb n:Nat} {s:By} {j:JobS} (h:JobW w cb n s j) (hf:Fr M w w') (hM:∀k∈M,¬j.o k):JobW w' cb n s j:=by
 cases j with
 | none=>trivial
 | merge jb mp b l ov=>exact ⟨⟨h.1.blk.fr hf fun hm=>hM _ hm (.inl rfl),h.1.left.fr hf fun hm=>hM _ hm (.inr rfl)⟩,h.2⟩
 | pull jb ov=>exact Blk.fr h hf fun hm=>hM _ hm rfl
 | push jb lm gm o l G ov=>exact PshW.fr h hf hM
theorem SinW.fr {n:Nat} {sc:Option (Nat × Nat × List Bool)} (h:SinW w n sc) (hf:Fr M w w') (hM:∀k∈M,¬sinO sc k):SinW w' n sc:=fun x hx=>(h x hx).fr hf (fun hm=>hM _ hm ((sinO_some hx _).2 (.inl rfl))) (fun hm=>hM _ hm ((sinO_some hx _).2 (.inr rfl)))
structure SimK (w':World) (S:SimS) (C:Nat→Prop):Prop where
 blk:¬C 0→Blk w' S.wb (simC S) 65
 ch:¬C 1→ChG noEx w' S.cb S.mb 1 60 S.L
 dir:¬C 2→DirW w' S.db S.dm S.E
 fil:¬C 3→FilesW w' S.fb S.fm S.F (S.ys.map (·.1))
 lst:¬C 4→LstW w' S.lb S.o S.v S.ys
 job:¬C 5→JobW w' S.cb S.n S.s S.j
 sin:¬C 6→SinW w' S.n S.sc
theorem SimW.keep (h:SimW w S) (hst:StepO w (ofC C (simF S)) w' (ofC C g)):SimK w' S C where
 blk hc:=by
  obtain ⟨M,hf,hM⟩:=h.sep.keep hst hc
  exact h.blk.fr hf fun hm=>hM _ hm rfl
 ch hc:=by
  obtain ⟨M,hf,hM⟩:=h.sep.keep hst hc
  exact h.ch.fr hf hM
 dir hc:=by
  obtain ⟨M,hf,hM⟩:=h.sep.keep hst hc
  exact h.dir.fr hf fun k hk hm=>hM k hm hk
 fil hc:=by
  obtain ⟨M,hf,hM⟩:=h.sep.keep hst hc
  exact h.fil.fr hf hM
 lst hc:=by
  obtain ⟨M,hf,hM⟩:=h.sep.keep hst hc
  exact h.lst.fr hf hM
 job hc:=by
  obtain ⟨M,hf,hM⟩:=h.sep.keep hst hc
  exact h.job.fr hf hM
 sin hc:=by
  obtain ⟨M,hf,hM⟩:=h.sep.keep hst hc
  exact h.sin.fr hf hM
theorem SimW.fr0 (h:SimW w S) (hf:Fr [] w w'):SimW w' S :=
 ⟨h.blk.fr0 hf,h.ch.fr0 hf,h.dir.fr0 hf,h.fil.fr hf (by simp),h.lst.fr0 hf,h.job.fr hf (by simp),h.sin.fr hf (by simp),h.sep.fr0 hf⟩
theorem SimW.new {S':SimS} (h:SimW w S) (hst:StepO w (ofC C (simF S)) w' (ofC C (simF S'))) (hg:∀i,¬C i→simF S' i=simF S i) (hlow:∀i k,C i→simF S' i k→k<w'.heap.size) (hoff:∀i j k,C i→C j→i≠j→simF S' i k→¬simF S' j k)
 (hw:SimK w' S C→Blk w' S'.wb (simC S') 65∧ChG noEx w' S'.cb S'.mb 1 60 S'.L∧DirW w' S'.db S'.dm S'.E∧FilesW w' S'.fb S'.fm S'.F (S'.ys.map (·.1))∧LstW w' S'.lb S'.o S'.v S'.ys∧JobW w' S'.cb S'.n S'.s S'.j∧SinW w' S'.n S'.sc) :
 SimW w' S'∧StepO w (allF (simF S)) w' (allF (simF S')):=by
 obtain ⟨h1,h2,h3,h4,h5,h6,h7⟩:=hw (h.keep hst)
 exact ⟨⟨h1,h2,h3,h4,h5,h6,h7,h.sep.turn hst hg hlow hoff⟩,Sep.all hst hg⟩
end
end Go.Proofs.YtffnihooekbcnaaGreat
namespace Go.Proofs.YtffnihooekbcnaaGreat
open Go.RowKit Go.Maps
attribute [local go_sem] mapAt_alloc mapAt_setCell mapAt_drew mapAt_drewN cells_str store_str eql_str neq_str guard_str len_str
structure OkW (S:SimS) (p:List By):Prop where
 ok:OkC 1 S.n 60 (S.L.map (·.x))
 path:IsPath (S.L.map (·.x)) S.s p
 n:1≤S.n∧S.n≤6
 deep:p.length≤8
section
variable {S:SimS} {p:List By}
theorem OkW.ims (h:OkW S p):ImsK S.n S.L:=fun c hc=>by
 obtain ⟨h1,h2,h3,_⟩:=h.ok.img c.x (List.mem_map.2 ⟨c,hc,rfl⟩)
 exact ⟨h1,h2,h3⟩
theorem OkW.nam (h:OkW S p) {c:Cd} (hc:c∈S.L):okName c.nm=true:=h.ok.names c.x (List.mem_map.2 ⟨c,hc,rfl⟩)
theorem OkW.nms (h:OkW S p):∀c∈S.L,c.nm.length≤15:=fun c hc=>by
 have:=h.nam hc
 unfold okName at this
 simp only [Bool.and_eq_true,decide_eq_true_eq] at this
 omega
theorem OkW.nnl (h:OkW S p):∀c∈S.L,c.nm≠[]:=fun c hc e=>by
 have:=h.nam hc
 rw [e] at this
 revert this
 decide
theorem OkW.few (h:OkW S p):S.L.length≤16:=by have:=h.ok.few;rwa [List.length_map] at this
theorem OkW.paths (h:OkW S p):∀d∈S.L,∃p,IsPath (S.L.map (·.x)) d.nm p∧p.length≤8:=fun d hd=>h.ok.path d.x (List.mem_map.2 ⟨d,hd,rfl⟩)
theorem OkW.max (h:OkW S p):∀c∈S.L,c.nm.length≤maxLen:=fun c hc=>Nat.le_trans (h.nms c hc) (by decide)
end
theorem OkW.find {S:SimS} {p:List By} (h:OkW S p):∃c,fK S.L S.s=some c∧c∈S.L∧S.s.length≤15:=by
 obtain ⟨d,hd,_⟩:=h.path.find
 obtain ⟨c,hc,_⟩:=fK_of hd
 obtain ⟨h1,h2⟩:=nlFind_mem hc
 exact ⟨c,hc,h1,by rw [←h2];exact h.nms c h1⟩
section
variable {w w':World} {S:SimS} {p:List By}
theorem SimW.cell (h:SimW w S) (i:Nat):w.cell? ⟨S.wb,i,none⟩=(simC S)[i]?:=h.blk.cell i
theorem sList_calls (h:SimW w S):Calls Tryz.prog 11 #[.pointer (some ⟨S.wb,0,none⟩)] w fun e w'=>e=.returned (.pointer (some ⟨S.lb,0,none⟩))∧w'=w:=by
 have c:=h.cell
 unfold simC at c
 go_enter Tryz.func11,Tryz.ntmps11
 go_wp2
 go_ret
 exact ⟨rfl,rfl⟩
theorem sJob_calls (h:SimW w S):Calls Tryz.prog 29 #[.pointer (some ⟨S.wb,0,none⟩)] w fun e w'=>e=.returned (.int .i64 S.j.kind)∧w'=w:=by
 have c:=h.cell
 unfold simC at c
 go_enter Tryz.func29,Tryz.ntmps29
 go_wp2
 go_ret
 exact ⟨rfl,rfl⟩
theorem sGone_calls (h:SimW w S):Calls Tryz.prog 59 #[.pointer (some ⟨S.wb,0,none⟩)] w fun e w'=>e=.returned (.tuple #[])∧SimW w' { S with j:=.none }∧Fr [S.wb] w w':=by
 have c:=h.cell
 have cf:=h.blk.frozen
 have cl:=h.blk.lt
 have hf1:Fr [S.wb] w ((((w.setCell ⟨S.wb,6,none⟩ (.int .i64 0)).setCell ⟨S.wb,7,none⟩ .nilIface).setCell ⟨S.wb,8,none⟩ (.pointer none)).setCell ⟨S.wb,9,none⟩ (.pointer none)) :=
  ((((Fr.refl [S.wb] w).setCell (p:=⟨S.wb,6,none⟩) (.inl (by simp)) _).setCell (p:=⟨S.wb,7,none⟩) (.inl (by simp)) _).setCell (p:=⟨S.wb,8,none⟩) (.inl (by simp)) _).setCell (p:=⟨S.wb,9,none⟩) (.inl (by simp)) _
 have hB:Blk _ S.wb (simC { S with j:=.none }) 65:=(((h.blk.setCell 6 (.int .i64 0)).setCell 7 .nilIface).setCell 8 (.pointer none)).setCell 9 (.pointer none)
 have hfin:=hidIt (And.intro hB hf1)
 clear hB hf1
 unfold simC at c
 go_enter Tryz.func59,Tryz.ntmps59
 go_wp2
 refine bodyPost_end (v:=.tuple #[]) (results_none rfl _ _ _) rfl ⟨rfl,?_,hfin.out.2⟩
 refine (h.new (C:=fun i=>i=0∨i=5) (S':={ S with j:=.none }) ⟨⟨[S.wb],hfin.out.2,fun k hk _=>⟨0,.inl rfl,List.mem_singleton.1 hk⟩⟩,?_⟩ ?_ ?_ ?_ ?_).1
 ·rintro k ⟨i,rfl | rfl,hk⟩
  ·exact .inl ⟨0,.inl rfl,hk⟩
  ·exact hk.elim
 ·intro i hi
  match i,hi with
  | 0,hi=>exact absurd (.inl rfl) hi
  | 1,_=>rfl
  | 2,_=>rfl
  | 3,_=>rfl
  | 4,_=>rfl
  | 5,hi=>exact absurd (.inr rfl) hi
  | 6,_=>rfl
  | _+7,_=>rfl
 ·rintro i k (rfl | rfl) hk
  ·rw [show k=S.wb from hk];exact hfin.out.1.lt
  ·exact hk.elim
 ·rintro i j k (rfl | rfl) (rfl | rfl) hne h1 h2
  ·exact hne rfl
  ·exact h2
  ·exact h1
  ·exact hne rfl
 ·exact fun K=>⟨hfin.out.1,K.ch (by simp),K.dir (by simp),K.fil (by simp),K.lst (by simp),trivial,K.sin (by simp)⟩
theorem sBegin_calls (wb:Nat) (j:JobS) (V:List Value) (hV:V.length=17) (hB:Blk w wb V 65):Calls Tryz.prog 49 #[.pointer (some ⟨wb,0,none⟩),.int .i64 j.kind,j.face] w fun e w'=>e=.returned (.int .i64 0)∧Blk w' wb ((V.set 6 (.int .i64 j.kind)).set 7 j.face) 65∧Fr [wb] w w':=by
 match V,hV with
 | [v0,v1,v2,v3,v4,v5,v6,v7,v8,v9,v10,v11,v12,v13,v14,v15,v16],_ =>
 have c:=hB.cell
 have cf:=hB.frozen
 have cl:=hB.lt
 have key:∀(K:Int) (f:Value),f=j.face→K=j.kind→Calls Tryz.prog 49 #[.pointer (some ⟨wb,0,none⟩),.int .i64 K,f] w fun e w'=>e=.returned (.int .i64 0)∧Blk w' wb [v0,v1,v2,v3,v4,v5,.int .i64 K,f,v8,v9,v10,v11,v12,v13,v14,v15,v16] 65∧Fr [wb] w w':=by
  intro K f hf hK
  have hf1:Fr [wb] w ((w.setCell ⟨wb,6,none⟩ (.int .i64 K)).setCell ⟨wb,7,none⟩ f) :=
   ((Fr.refl [wb] w).setCell (p:=⟨wb,6,none⟩) (.inl (by simp)) _).setCell (p:=⟨wb,7,none⟩) (.inl (by simp)) _
  have hB2:Blk ((w.setCell ⟨wb,6,none⟩ (.int .i64 K)).setCell ⟨wb,7,none⟩ f) wb [v0,v1,v2,v3,v4,v5,.int .i64 K,f,v8,v9,v10,v11,v12,v13,v14,v15,v16] 65:=(hB.setCell 6 (.int .i64 K)).setCell 7 f
  have hfin:=hidIt (And.intro hB2 hf1)
  clear hB2 hf1 hB hK
  cases j <;> (
   unfold JobS.face at hf
   subst hf
   go_enter Tryz.func49,Tryz.ntmps49
   go_wp2
   go_ret
   exact ⟨rfl,hfin.out.1,hfin.out.2⟩)
 exact key _ _ rfl rfl
theorem sSize_calls (h:SimW w S) (hO:OkW S p):Calls Tryz.prog 45 #[.pointer (some ⟨S.wb,0,none⟩)] w fun e w'=>e=.returned (.int .i64 (S.n:Int))∧Fr [] w w':=by
 obtain ⟨c,hc,hcm,hsl⟩:=hO.find
 have cc:=fun X (hX:Fr [] w X)=>(h.blk.fr0 hX).cell
 unfold simC at cc
 have kI:=fun X (hX:Fr [] w X)=>chImage_calls S.s (h.ch.fr0 hX) (by unfold maxLen;omega)
 simp only [hc] at kI
 have kS:=fun X (hX:Fr [] w X)=>iSize_calls X ((h.ch.img c hcm (fun h=>h)).fr0 hX)
 simp only [(hO.ims c hcm).2.2] at kS
 have hdr:=(Fr.refl [] w).drew
 clear h hO
 go_enter Tryz.func45,Tryz.ntmps45
 go_wp2_with fail
 refine wp_region_G (fun X=>Fr [] w.drew X) [(true,0),(true,1),(true,2),(true,3),(true,4),(true,5),(true,6),(true,7),(false,8),(false,9),(true,10)] (by as_aux_lemma=>kernel_rfl) (by as_aux_lemma=>kernel_rfl) (Fr.refl _ _) ?_
 simp only [inOrder,jD,jE,jF,jG]
 iterate 3 (refine wpG_pure fun K hK=>?_;go_simp;refine hK _ ?_;clear hK K)
 refine wpG_val (.pointer (some ⟨S.cb,0,none⟩)) (by first | rfl | go_simp) (fun X hX=>by have c0:=cc X (hdr.trans0 hX);go_simp) ?_
 simp only [Act.put,jA,jB,jC]
 iterate 3 (refine wpG_pure fun K hK=>?_;go_simp;refine hK _ ?_;clear hK K)
 refine wpG_val (strL S.s) (by first | rfl | go_simp) (fun X hX=>by have c0:=cc X (hdr.trans0 hX);go_simp) ?_
 simp only [Act.put,jA,jB,jC]
 refine wpG_one fun K hK=>?_
 go_simp
 refine (kI _ hdr).mono ?_
 rintro e w2 ⟨rfl,rfl⟩
 refine hK _ _ (Fr.refl _ _) ?_
 clear hK K
 refine wpG_one fun K hK=>?_
 go_simp
 refine (kS _ hdr).mono ?_
 rintro e w2 ⟨rfl,rfl⟩
 refine hK _ _ (Fr.refl _ _) ?_
 clear hK K
 iterate 1 (refine wpG_pure fun K hK=>?_;go_simp;refine hK _ ?_;clear hK K)
 refine wpG_end ?_
 go_wp2
 go_ret
 exact ⟨rfl,hdr⟩
theorem sRead_calls (h:SimW w S) (hO:OkW S p) (a l:Nat) (hal:a+l≤S.n*2):Calls Tryz.prog 16 #[.pointer (some ⟨S.wb,0,none⟩),.int .i64 (a:Int),.int .i64 (l:Int)] w (chReadPost w (secsV (viewK S.L S.n S.s p) a l)):=by
 obtain ⟨c,hc,hcm,hsl⟩:=hO.find
 have cc:=fun X (hX:Fr [] w X)=>(h.blk.fr0 hX).cell
 unfold simC at cc
 have kR:=fun X (hX:Fr [] w X)=>chRead_calls S.s p S.n a l (h.ch.fr0 hX) hO.ims hO.path hO.max (by have:=hO.deep;omega) (by have:=hO.n;omega) hal
 have hdr:=(Fr.refl [] w).drew
 unfold chReadPost at kR ⊢
 clear h hO
 go_enter Tryz.func16,Tryz.ntmps16
 go_wp2_with fail
 refine wp_region_G (fun X=>Fr [] w.drew X) [(true,0),(true,1),(true,2),(true,3),(true,4),(true,5),(true,6),(true,7),(true,8),(true,9),(false,10),(true,11),(true,12),(true,13),(true,14)] (by as_aux_lemma=>kernel_rfl) (by as_aux_lemma=>kernel_rfl) (Fr.refl _ _) ?_
 simp only [inOrder,jD,jE,jF,jG]
 iterate 3 (refine wpG_pure fun K hK=>?_;go_simp;refine hK _ ?_;clear hK K)
 refine wpG_val (.pointer (some ⟨S.cb,0,none⟩)) (by first | rfl | go_simp) (fun X hX=>by have c0:=cc X (hdr.trans0 hX);go_simp) ?_
 simp only [Act.put,jA,jB,jC]
 iterate 3 (refine wpG_pure fun K hK=>?_;go_simp;refine hK _ ?_;clear hK K)
 refine wpG_val (strL S.s) (by first | rfl | go_simp) (fun X hX=>by have c0:=cc X (hdr.trans0 hX);go_simp) ?_
 simp only [Act.put,jA,jB,jC]
 iterate 2 (refine wpG_pure fun K hK=>?_;go_simp;refine hK _ ?_;clear hK K)
 refine wpG_one fun K hK=>?_
 go_simp
 refine (kR _ hdr).mono ?_
 rintro e w4 ⟨v,rfl,hv,hvo,hvn,hf4⟩
 refine hK _ _ (hf4) ?_
 clear hK K
 iterate 4 (refine wpG_pure fun K hK=>?_;go_simp;refine hK _ ?_;clear hK K)
 refine wpG_end ?_
 have hfin:=hidIt (And.intro hv (And.intro hvo (And.intro hvn (hdr.trans0 hf4))))
 clear hv hvo hvn hf4 kR cc
 obtain ⟨va,vc,hvs,_⟩:=SlF.open hfin.out.1
 subst hvs
 go_wp2
 go_ret2
 exact ⟨_,rfl,hfin.out.1,hfin.out.2.1,hfin.out.2.2.1,hfin.out.2.2.2⟩
end
end Go.Proofs.YtffnihooekbcnaaGreat
namespace Go.Proofs.YtffnihooekbcnaaGreat
open Go.RowKit Go.Maps
section
variable {w w':World} {S:SimS}
theorem SimW.one (h:SimW w S) (c:Nat) {S':SimS} (hst:StepO w (simF S c) w' (simF S' c)) (hg:∀i,i≠c→simF S' i=simF S i) (hlow:∀k,simF S' c k→k<w'.heap.size)
 (hw:SimK w' S (·=c)→Blk w' S'.wb (simC S') 65∧ChG noEx w' S'.cb S'.mb 1 60 S'.L∧DirW w' S'.db S'.dm S'.E∧FilesW w' S'.fb S'.fm S'.F (S'.ys.map (·.1))∧LstW w' S'.lb S'.o S'.v S'.ys∧JobW w' S'.cb S'.n S'.s S'.j∧SinW w' S'.n S'.sc) :
 SimW w' S'∧StepO w (allF (simF S)) w' (allF (simF S')) :=
 h.new (C:=(·=c)) (ofC_one hst) hg (fun i k hi hk=>hlow k (hi ▸ hk)) (fun i j k hi hj hne _ _=>hne (hi.trans hj.symm)) hw
theorem filO_low {fb fm:Nat} {F:Option (Nat × Nat × Nat × (Nat→Option By))} {bs:List Bk} (h:FilesW w fb fm F bs) {k:Nat} (hk:filO fb fm F k):k<w.heap.size:=by
 rcases hk with rfl | rfl | hk
 ·exact h.fil.lt.1
 ·exact h.fil.lt.2
 ·cases F with
  | none=>exact hk.elim
  | some x =>
    have:=(h.sav x rfl).st.lt
    rcases hk with rfl | rfl | rfl
    ·exact this.1
    ·exact this.2.1
    ·exact this.2.2
theorem job_low {cb n:Nat} {s:By} {j:JobS} (h:JobW w cb n s j) {k:Nat} (hk:j.o k):k<w.heap.size:=by
 cases j with
 | none=>exact hk.elim
 | merge jb mp b l ov=>rcases hk with rfl | rfl;exact h.1.blk.lt;exact h.1.left.lt
 | pull jb ov=>rw [show k=jb from hk];exact Blk.lt h
 | push jb lm gm o l G ov=>exact PshW.lt h hk
theorem sin_low {n:Nat} {sc:Option (Nat × Nat × List Bool)} (h:SinW w n sc) {k:Nat} (hk:sinO sc k):k<w.heap.size:=by
 cases sc with
 | none=>exact hk.elim
 | some x=>rcases hk with rfl | rfl;exact (h x rfl).lt.1;exact (h x rfl).lt.2
theorem SimW.chain (h:SimW w S) {L':List Cd} (hc:ChG noEx w' S.cb S.mb 1 60 L') (hst:StepO w (chO S.cb S.mb S.L) w' (chO S.cb S.mb L')):SimW w' { S with L:=L' }∧StepO w (allF (simF S)) w' (allF (simF { S with L:=L' })):=by
 refine h.one 1 (S':={ S with L:=L' }) hst (fun i hi=>?_) ?_ fun K=>?_
 ·match i,hi with
  | 0,_=>rfl
  | 1,hi=>exact absurd rfl hi
  | 2,_=>rfl
  | 3,_=>rfl
  | 4,_=>rfl
  | 5,_=>rfl
  | 6,_=>rfl
  | _+7,_=>rfl
 ·exact fun k hk=>hc.lt (fun _ _ h=>h) hk
 ·exact ⟨K.blk (by decide),hc,K.dir (by decide),K.fil (by decide),K.lst (by decide),K.job (by decide),K.sin (by decide)⟩
theorem SimW.dirE (h:SimW w S) {E':List Cel} (hc:DirW w' S.db S.dm E') (hst:StepO w (fun k=>k∈homes S.db S.dm S.E) w' (fun k=>k∈homes S.db S.dm E')):SimW w' { S with E:=E' }∧StepO w (allF (simF S)) w' (allF (simF { S with E:=E' })):=by
 refine h.one 2 (S':={ S with E:=E' }) hst (fun i hi=>?_) ?_ fun K=>?_
 ·match i,hi with
  | 0,_=>rfl
  | 1,_=>rfl
  | 2,hi=>exact absurd rfl hi
  | 3,_=>rfl
  | 4,_=>rfl
  | 5,_=>rfl
  | 6,_=>rfl
  | _+7,_=>rfl
 ·exact fun k hk=>hc.lt k hk
 ·exact ⟨K.blk (by decide),K.ch (by decide),hc,K.fil (by decide),K.lst (by decide),K.job (by decide),K.sin (by decide)⟩
theorem SimW.since (h:SimW w S) {sc':Option (Nat × Nat × List Bool)} (hp:scP sc'=scP S.sc) (hc:SinW w' S.n sc') (hst:StepO w (sinO S.sc) w' (sinO sc')):SimW w' { S with sc:=sc' }∧StepO w (allF (simF S)) w' (allF (simF { S with sc:=sc' })):=by
 refine h.one 6 (S':={ S with sc:=sc' }) hst (fun i hi=>?_) ?_ fun K=>?_
 ·match i,hi with
  | 0,_=>rfl
  | 1,_=>rfl
  | 2,_=>rfl
  | 3,_=>rfl
  | 4,_=>rfl
  | 5,_=>rfl
  | 6,hi=>exact absurd rfl hi
  | _+7,_=>rfl
 ·exact fun k hk=>sin_low hc hk
 ·exact ⟨(by have:=K.blk (by decide);unfold simC at this ⊢;rw [hp];exact this),K.ch (by decide),K.dir (by decide),K.fil (by decide),K.lst (by decide),K.job (by decide),hc⟩
theorem SimW.jobJ (h:SimW w S) {j':JobS} (hk:j'.kind=S.j.kind) (hf:j'.face=S.j.face) (hm:j'.mp=S.j.mp) (hq:j'.pp=S.j.pp) (hc:JobW w' S.cb S.n S.s j') (hst:StepO w S.j.o w' j'.o):SimW w' { S with j:=j' }∧StepO w (allF (simF S)) w' (allF (simF { S with j:=j' })):=by
 refine h.one 5 (S':={ S with j:=j' }) hst (fun i hi=>?_) ?_ fun K=>?_
 ·match i,hi with
  | 0,_=>rfl
  | 1,_=>rfl
  | 2,_=>rfl
  | 3,_=>rfl
  | 4,_=>rfl
  | 5,hi=>exact absurd rfl hi
  | 6,_=>rfl
  | _+7,_=>rfl
 ·exact fun k hk=>job_low hc hk
 ·exact ⟨(by have:=K.blk (by decide);unfold simC at this ⊢;rw [hk,hf,hm,hq];exact this),K.ch (by decide),K.dir (by decide),K.fil (by decide),K.lst (by decide),hc,K.sin (by decide)⟩
end
end Go.Proofs.YtffnihooekbcnaaGreat
