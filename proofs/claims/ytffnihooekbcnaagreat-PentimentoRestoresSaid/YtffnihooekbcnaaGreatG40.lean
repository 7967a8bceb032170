/-
  pentimentotop: does, ends.
-/
import Derived.Test.YtffnihooekbcnaaGreatG39
set_option maxRecDepth 100000
set_option maxHeartbeats 6400000
namespace Go.Proofs.YtffnihooekbcnaaGreat
open Go.RowKit Go.Maps
attribute [local go_sem] mapAt_alloc mapAt_setCell mapAt_drew mapAt_drewN cells_str store_str eql_str neq_str guard_str len_str
section
variable {w w':World} {S:SimS} {p:List By} {Ws:List (Nat→By)} {W:Nat→By}
def doesP (w:World) (S:SimS) (Ws:List (Nat→By)) (W:Nat→By) (kd:Int) (e:Ending) (w':World):Prop :=
 e=.returned (.tuple #[])∧keptP w S Ws W (fun _ S'=>(S.j.kind≠3→S'.j.kind≠3)∧(kd=0→S'.j.kind=S.j.kind)) w'
theorem SameS.trans {S1 S2 S3:SimS} (h:SameS S1 S2) (g:SameS S2 S3):SameS S1 S3:=⟨g.wb.trans h.wb,g.n.trans h.n,g.ys.trans h.ys,g.nm.trans h.nm⟩
theorem tDoes_calls (h:SimW w S) (hI:Inv S p Ws W) (x kd:Int) (va:Option Addr) (vn vc:Nat) (b nm:By) (hv:SlY w (.slice va vn vc) b) (hvo:0<b.length→∀k,(Value.slice va vn vc).ownBlock=some k→¬allF (simF S) k) (hkd:0≤kd∧kd≤6) (hk3:kd=0∨S.j.kind≠3) (hnm:nm.length≤maxLen) :
 Calls Tryz.prog 10 #[.pointer (some ⟨S.wb,0,none⟩),.agg #[.int .i64 x,.slice va vn vc,.int .i64 kd,strL nm]] w (doesP w S Ws W kd):=by
 obtain ⟨ba,bc,hve,hlen,_⟩:=SlF.open hv
 injection hve with e1 e2 e3
 subst e1 e2 e3
 obtain ⟨N,hN⟩:∃N,Hid (strL nm=Value.string N):=⟨_,hidIt rfl⟩
 have e0:strL []=Value.string ⟨#[]⟩:=rfl
 rw [hN.out]
 obtain ⟨w1,hw1⟩:∃w1,Hid (w.alloc (.cells #[.int .i64 x,.slice va b.length vc,.int .i64 kd,.string N] 37)=w1):=⟨_,hidIt rfl⟩
 have hF1:Fr [] w w1:=by rw [←hw1.out];exact (Fr.refl [] w).alloc _
 have B1:Blk w1 w.heap.size [.int .i64 x,.slice va b.length vc,.int .i64 kd,.string N] 37:=by rw [←hw1.out];exact Blk.new w [.int .i64 x,.slice va b.length vc,.int .i64 kd,.string N] _
 have h1:=h.fr0 hF1
 have hfree:¬allF (simF S) w.heap.size:=h.free (Nat.le_refl _)
 have hv1:=SlF.fr0 hv hF1
 have c1:=B1.cell
 obtain ⟨bl,hbl⟩:∃bl,Hid (b.length=bl):=⟨_,hidIt rfl⟩
 obtain ⟨eb,heb⟩:∃eb,Hid (w.heap.size=eb):=⟨_,hidIt rfl⟩
 rw [hbl.out] at B1 c1 hv1 hvo hw1 ⊢
 rw [heb.out] at B1 c1 hfree
 have hk7:kd=0∨kd=1∨kd=2∨kd=3∨kd=4∨kd=5∨kd=6:=by omega
 rcases hk7 with rfl | rfl | rfl | rfl | rfl | rfl | rfl
 ·by_cases hb:0<bl
  ·have hb':(0:Int)<(bl:Int):=by omega
   have kW:=do_write h1 hI x va bl vc b (by rw [hbl.out];exact hb) hv1 (hvo hb)
   unfold doP keptP at kW
   simp only [stepC,e0] at kW
   clear h1
   go_enter Tryz.func10,Tryz.ntmps10
   go_wp2_with fail
   rw [hw1.out,heb.out]
   clear c1 hw1 heb
   refine kW.mono ?_
   rintro e w2 ⟨i,rfl,p2,S2,h2,hI2,hs2,hst2,_,hkk,_⟩
   have B2:=hst2.blk B1 hfree
   have c2:=B2.cell
   have hst2':=(StepO.fr0 (o:=allF (simF S)) hF1).trans hst2
   clear kW
   have hfin:=hidIt (show keptP w S Ws W (fun _ S'=>(S.j.kind≠3→S'.j.kind≠3)∧((0:Int)=0→S'.j.kind=S.j.kind)) w2 from ⟨_,S2,h2,hI2,hs2,hst2',(fun h9=>by rw [hkk];exact h9),(fun _=>hkk)⟩)
   clear h h2 hI hI2 hst2' hkk
   go_wp2
   exact bodyPost_end (v:=.tuple #[]) (results_none rfl _ _ _) rfl ⟨rfl,by obtain ⟨p9,S9,g1,g2,g3,g4,g5,g6⟩:=hfin.out;exact ⟨p9,S9,g1,g2,g3,g4,g5,fun _=>g6 trivial⟩⟩
  ·have hb':¬(0:Int)<(bl:Int):=by omega
   have h2:=h1
   have hI2:=hI
   have hs2:SameS S S:=⟨rfl,rfl,rfl,rfl⟩
   have hst2':=StepO.fr0 (o:=allF (simF S)) hF1
   have hkk:S.j.kind=S.j.kind:=rfl
   have hfin:=hidIt (show keptP w S Ws W (fun _ S'=>(S.j.kind≠3→S'.j.kind≠3)∧((0:Int)=0→S'.j.kind=S.j.kind)) w1 from ⟨_,S,h2,hI2,hs2,hst2',(fun h9=>by rw [hkk];exact h9),(fun _=>hkk)⟩)
   clear h h2 hI hI2 hst2' hkk h1
   go_enter Tryz.func10,Tryz.ntmps10
   go_wp2
   rw [hw1.out]
   exact bodyPost_end (v:=.tuple #[]) (results_none rfl _ _ _) rfl ⟨rfl,by obtain ⟨p9,S9,g1,g2,g3,g4,g5,g6⟩:=hfin.out;exact ⟨p9,S9,g1,g2,g3,g4,g5,fun _=>g6 trivial⟩⟩
 ·by_cases hb:0<bl
  ·have hb':(0:Int)<(bl:Int):=by omega
   have kW:=do_write h1 hI x va bl vc b (by rw [hbl.out];exact hb) hv1 (hvo hb)
   unfold doP keptP at kW
   simp only [stepC,e0] at kW
   clear h1
   go_enter Tryz.func10,Tryz.ntmps10
   go_wp2_with fail
   rw [hw1.out,heb.out]
   clear c1 hw1 heb
   refine kW.mono ?_
   rintro e w2 ⟨i,rfl,p2,S2,h2,hI2,hs2,hst2,_,hkk,_⟩
   have B2:=hst2.blk B1 hfree
   have c2:=B2.cell
   have hst2':=(StepO.fr0 (o:=allF (simF S)) hF1).trans hst2
   clear kW
   have hfin:=hidIt (show keptP w S Ws W (fun _ S'=>(S.j.kind≠3→S'.j.kind≠3)∧((1:Int)=0→S'.j.kind=S.j.kind)) w2 from ⟨_,S2,h2,hI2,hs2,hst2',(fun h9=>by rw [hkk];exact h9),(fun h9=>absurd h9 (by decide))⟩)
   clear h h2 hI hI2 hst2' hkk
   go_wp2
   exact bodyPost_end (v:=.tuple #[]) (results_none rfl _ _ _) rfl ⟨rfl,hfin.out⟩
  ·have hb':¬(0:Int)<(bl:Int):=by omega
   have h2:=h1
   have hI2:=hI
   have hs2:SameS S S:=⟨rfl,rfl,rfl,rfl⟩
   have hst2':=StepO.fr0 (o:=allF (simF S)) hF1
   have hkk:S.j.kind=S.j.kind:=rfl
   have hfin:=hidIt (show keptP w S Ws W (fun _ S'=>(S.j.kind≠3→S'.j.kind≠3)∧((1:Int)=0→S'.j.kind=S.j.kind)) w1 from ⟨_,S,h2,hI2,hs2,hst2',(fun h9=>by rw [hkk];exact h9),(fun h9=>absurd h9 (by decide))⟩)
   clear h h2 hI hI2 hst2' hkk h1
   go_enter Tryz.func10,Tryz.ntmps10
   go_wp2
   rw [hw1.out]
   exact bodyPost_end (v:=.tuple #[]) (results_none rfl _ _ _) rfl ⟨rfl,hfin.out⟩
 ·by_cases hb:0<bl
  ·have hb':(0:Int)<(bl:Int):=by omega
   have kW:=do_write h1 hI x va bl vc b (by rw [hbl.out];exact hb) hv1 (hvo hb)
   unfold doP keptP at kW
   simp only [stepC,e0] at kW
   clear h1
   go_enter Tryz.func10,Tryz.ntmps10
   go_wp2_with fail
   rw [hw1.out,heb.out]
   clear c1 hw1 heb
   refine kW.mono ?_
   rintro e w2 ⟨i,rfl,p2,S2,h2,hI2,hs2,hst2,_,hkk,_⟩
   have B2:=hst2.blk B1 hfree
   have c2:=B2.cell
   have hst2':=(StepO.fr0 (o:=allF (simF S)) hF1).trans hst2
   clear kW
   have hfin:=hidIt (show keptP w S Ws W (fun _ S'=>(S.j.kind≠3→S'.j.kind≠3)∧((2:Int)=0→S'.j.kind=S.j.kind)) w2 from ⟨_,S2,h2,hI2,hs2,hst2',(fun h9=>by rw [hkk];exact h9),(fun h9=>absurd h9 (by decide))⟩)
   clear h h2 hI hI2 hst2' hkk
   go_wp2
   exact bodyPost_end (v:=.tuple #[]) (results_none rfl _ _ _) rfl ⟨rfl,hfin.out⟩
  ·have hb':¬(0:Int)<(bl:Int):=by omega
   have h2:=h1
   have hI2:=hI
   have hs2:SameS S S:=⟨rfl,rfl,rfl,rfl⟩
   have hst2':=StepO.fr0 (o:=allF (simF S)) hF1
   have hkk:S.j.kind=S.j.kind:=rfl
   have hfin:=hidIt (show keptP w S Ws W (fun _ S'=>(S.j.kind≠3→S'.j.kind≠3)∧((2:Int)=0→S'.j.kind=S.j.kind)) w1 from ⟨_,S,h2,hI2,hs2,hst2',(fun h9=>by rw [hkk];exact h9),(fun h9=>absurd h9 (by decide))⟩)
   clear h h2 hI hI2 hst2' hkk h1
   go_enter Tryz.func10,Tryz.ntmps10
   go_wp2
   rw [hw1.out]
   exact bodyPost_end (v:=.tuple #[]) (results_none rfl _ _ _) rfl ⟨rfl,hfin.out⟩
 ·by_cases hb:0<bl
  ·have hb':(0:Int)<(bl:Int):=by omega
   have kW:=do_write h1 hI x va bl vc b (by rw [hbl.out];exact hb) hv1 (hvo hb)
   unfold doP keptP at kW
   simp only [stepC,e0] at kW
   have hk3':S.j.kind≠3:=hk3.resolve_left (by decide)
   clear h1
   go_enter Tryz.func10,Tryz.ntmps10
   go_wp2_with fail
   rw [hw1.out,heb.out]
   clear c1 hw1 heb
   refine kW.mono ?_
   rintro e w2 ⟨i,rfl,p2,S2,h2,hI2,hs2,hst2,_,hkk,_⟩
   have B2:=hst2.blk B1 hfree
   have c2:=B2.cell
   have hst2':=(StepO.fr0 (o:=allF (simF S)) hF1).trans hst2
   clear kW
   have kX:=do_overlay h2 hI2 (by rw [hkk];exact hk3') nm hnm
   unfold doP keptP at kX
   simp only [stepC,e0,hN.out] at kX
   rw [hs2.wb] at kX
   clear h h2 hI hI2
   go_wp2_with fail
   refine kX.mono ?_
   rintro e w3 ⟨i3,rfl,p3,S3,h3,hI3,hs3,hst3,hk⟩
   have hfin:=hidIt (show keptP w S Ws W (fun _ S'=>(S.j.kind≠3→S'.j.kind≠3)∧((3:Int)=0→S'.j.kind=S.j.kind)) w3 from ⟨p3,S3,h3,hI3,hs2.trans hs3,hst2'.trans hst3,fun _=>hk,fun h9=>absurd h9 (by decide)⟩)
   clear kX h3 hI3 hs3 hst3 hk hst2'
   go_wp2
   exact bodyPost_end (v:=.tuple #[]) (results_none rfl _ _ _) rfl ⟨rfl,hfin.out⟩
  ·have hb':¬(0:Int)<(bl:Int):=by omega
   have hk3':S.j.kind≠3:=hk3.resolve_left (by decide)
   have h2:=h1
   have hI2:=hI
   have hs2:SameS S S:=⟨rfl,rfl,rfl,rfl⟩
   have hst2':=StepO.fr0 (o:=allF (simF S)) hF1
   have hkk:S.j.kind=S.j.kind:=rfl
   have kX:=do_overlay h2 hI2 (by rw [hkk];exact hk3') nm hnm
   unfold doP keptP at kX
   simp only [stepC,e0,hN.out] at kX
   rw [hs2.wb] at kX
   clear h1
   go_enter Tryz.func10,Tryz.ntmps10
   clear h h2 hI hI2
   go_wp2_with fail
   rw [hw1.out]
   refine kX.mono ?_
   rintro e w3 ⟨i3,rfl,p3,S3,h3,hI3,hs3,hst3,hk⟩
   have hfin:=hidIt (show keptP w S Ws W (fun _ S'=>(S.j.kind≠3→S'.j.kind≠3)∧((3:Int)=0→S'.j.kind=S.j.kind)) w3 from ⟨p3,S3,h3,hI3,hs2.trans hs3,hst2'.trans hst3,fun _=>hk,fun h9=>absurd h9 (by decide)⟩)
   clear kX h3 hI3 hs3 hst3 hk hst2'
   go_wp2
   exact bodyPost_end (v:=.tuple #[]) (results_none rfl _ _ _) rfl ⟨rfl,hfin.out⟩
 ·by_cases hb:0<bl
  ·have hb':(0:Int)<(bl:Int):=by omega
   have kW:=do_write h1 hI x va bl vc b (by rw [hbl.out];exact hb) hv1 (hvo hb)
   unfold doP keptP at kW
   simp only [stepC,e0] at kW
   clear h1
   go_enter Tryz.func10,Tryz.ntmps10
   go_wp2_with fail
   rw [hw1.out,heb.out]
   clear c1 hw1 heb
   refine kW.mono ?_
   rintro e w2 ⟨i,rfl,p2,S2,h2,hI2,hs2,hst2,_,hkk,_⟩
   have B2:=hst2.blk B1 hfree
   have c2:=B2.cell
   have hst2':=(StepO.fr0 (o:=allF (simF S)) hF1).trans hst2
   clear kW
   have hfin:=hidIt (show keptP w S Ws W (fun _ S'=>(S.j.kind≠3→S'.j.kind≠3)∧((4:Int)=0→S'.j.kind=S.j.kind)) w2 from ⟨_,S2,h2,hI2,hs2,hst2',(fun h9=>by rw [hkk];exact h9),(fun h9=>absurd h9 (by decide))⟩)
   clear h h2 hI hI2 hst2' hkk
   go_wp2
   exact bodyPost_end (v:=.tuple #[]) (results_none rfl _ _ _) rfl ⟨rfl,hfin.out⟩
  ·have hb':¬(0:Int)<(bl:Int):=by omega
   have h2:=h1
   have hI2:=hI
   have hs2:SameS S S:=⟨rfl,rfl,rfl,rfl⟩
   have hst2':=StepO.fr0 (o:=allF (simF S)) hF1
   have hkk:S.j.kind=S.j.kind:=rfl
   have hfin:=hidIt (show keptP w S Ws W (fun _ S'=>(S.j.kind≠3→S'.j.kind≠3)∧((4:Int)=0→S'.j.kind=S.j.kind)) w1 from ⟨_,S,h2,hI2,hs2,hst2',(fun h9=>by rw [hkk];exact h9),(fun h9=>absurd h9 (by decide))⟩)
   clear h h2 hI hI2 hst2' hkk h1
   go_enter Tryz.func10,Tryz.ntmps10
   go_wp2
   rw [hw1.out]
   exact bodyPost_end (v:=.tuple #[]) (results_none rfl _ _ _) rfl ⟨rfl,hfin.out⟩
 ·by_cases hb:0<bl
  ·have hb':(0:Int)<(bl:Int):=by omega
   have kW:=do_write h1 hI x va bl vc b (by rw [hbl.out];exact hb) hv1 (hvo hb)
   unfold doP keptP at kW
   simp only [stepC,e0] at kW
   have hk3':S.j.kind≠3:=hk3.resolve_left (by decide)
   clear h1
   go_enter Tryz.func10,Tryz.ntmps10
   go_wp2_with fail
   rw [hw1.out,heb.out]
   clear c1 hw1 heb
   refine kW.mono ?_
   rintro e w2 ⟨i,rfl,p2,S2,h2,hI2,hs2,hst2,_,hkk,_⟩
   have B2:=hst2.blk B1 hfree
   have c2:=B2.cell
   have hst2':=(StepO.fr0 (o:=allF (simF S)) hF1).trans hst2
   clear kW
   have kX:=do_merge h2 hI2 (by rw [hkk];exact hk3') nm
   unfold doP keptP at kX
   simp only [stepC,e0,hN.out] at kX
   rw [hs2.wb] at kX
   clear h h2 hI hI2
   go_wp2_with fail
   refine kX.mono ?_
   rintro e w3 ⟨i3,rfl,p3,S3,h3,hI3,hs3,hst3,hk⟩
   have hfin:=hidIt (show keptP w S Ws W (fun _ S'=>(S.j.kind≠3→S'.j.kind≠3)∧((5:Int)=0→S'.j.kind=S.j.kind)) w3 from ⟨p3,S3,h3,hI3,hs2.trans hs3,hst2'.trans hst3,fun _=>hk,fun h9=>absurd h9 (by decide)⟩)
   clear kX h3 hI3 hs3 hst3 hk hst2'
   go_wp2
   exact bodyPost_end (v:=.tuple #[]) (results_none rfl _ _ _) rfl ⟨rfl,hfin.out⟩
  ·have hb':¬(0:Int)<(bl:Int):=by omega
   have hk3':S.j.kind≠3:=hk3.resolve_left (by decide)
   have h2:=h1
   have hI2:=hI
   have hs2:SameS S S:=⟨rfl,rfl,rfl,rfl⟩
   have hst2':=StepO.fr0 (o:=allF (simF S)) hF1
   have hkk:S.j.kind=S.j.kind:=rfl
   have kX:=do_merge h2 hI2 (by rw [hkk];exact hk3') nm
   unfold doP keptP at kX
   simp only [stepC,e0,hN.out] at kX
   rw [hs2.wb] at kX
   clear h1
   go_enter Tryz.func10,Tryz.ntmps10
   clear h h2 hI hI2
   go_wp2_with fail
   rw [hw1.out]
   refine kX.mono ?_
   rintro e w3 ⟨i3,rfl,p3,S3,h3,hI3,hs3,hst3,hk⟩
   have hfin:=hidIt (show keptP w S Ws W (fun _ S'=>(S.j.kind≠3→S'.j.kind≠3)∧((5:Int)=0→S'.j.kind=S.j.kind)) w3 from ⟨p3,S3,h3,hI3,hs2.trans hs3,hst2'.trans hst3,fun _=>hk,fun h9=>absurd h9 (by decide)⟩)
   clear kX h3 hI3 hs3 hst3 hk hst2'
   go_wp2
   exact bodyPost_end (v:=.tuple #[]) (results_none rfl _ _ _) rfl ⟨rfl,hfin.out⟩
 ·by_cases hb:0<bl
  ·have hb':(0:Int)<(bl:Int):=by omega
   have kW:=do_write h1 hI x va bl vc b (by rw [hbl.out];exact hb) hv1 (hvo hb)
   unfold doP keptP at kW
   simp only [stepC,e0] at kW
   have hk3':S.j.kind≠3:=hk3.resolve_left (by decide)
   clear h1
   go_enter Tryz.func10,Tryz.ntmps10
   go_wp2_with fail
   rw [hw1.out,heb.out]
   clear c1 hw1 heb
   refine kW.mono ?_
   rintro e w2 ⟨i,rfl,p2,S2,h2,hI2,hs2,hst2,_,hkk,_⟩
   have B2:=hst2.blk B1 hfree
   have c2:=B2.cell
   have hst2':=(StepO.fr0 (o:=allF (simF S)) hF1).trans hst2
   clear kW
   have kX:=do_pull h2 hI2 (by rw [hkk];exact hk3') nm
   unfold doP keptP at kX
   simp only [stepC,e0,hN.out] at kX
   rw [hs2.wb] at kX
   clear h h2 hI hI2
   go_wp2_with fail
   refine kX.mono ?_
   rintro e w3 ⟨i3,rfl,p3,S3,h3,hI3,hs3,hst3,hk⟩
   have hfin:=hidIt (show keptP w S Ws W (fun _ S'=>(S.j.kind≠3→S'.j.kind≠3)∧((6:Int)=0→S'.j.kind=S.j.kind)) w3 from ⟨p3,S3,h3,hI3,hs2.trans hs3,hst2'.trans hst3,fun _=>hk,fun h9=>absurd h9 (by decide)⟩)
   clear kX h3 hI3 hs3 hst3 hk hst2'
   go_wp2
   exact bodyPost_end (v:=.tuple #[]) (results_none rfl _ _ _) rfl ⟨rfl,hfin.out⟩
  ·have hb':¬(0:Int)<(bl:Int):=by omega
   have hk3':S.j.kind≠3:=hk3.resolve_left (by decide)
   have h2:=h1
   have hI2:=hI
   have hs2:SameS S S:=⟨rfl,rfl,rfl,rfl⟩
   have hst2':=StepO.fr0 (o:=allF (simF S)) hF1
   have hkk:S.j.kind=S.j.kind:=rfl
   have kX:=do_pull h2 hI2 (by rw [hkk];exact hk3') nm
   unfold doP keptP at kX
   simp only [stepC,e0,hN.out] at kX
   rw [hs2.wb] at kX
   clear h1
   go_enter Tryz.func10,Tryz.ntmps10
   clear h h2 hI hI2
   go_wp2_with fail
   rw [hw1.out]
   refine kX.mono ?_
   rintro e w3 ⟨i3,rfl,p3,S3,h3,hI3,hs3,hst3,hk⟩
   have hfin:=hidIt (show keptP w S Ws W (fun _ S'=>(S.j.kind≠3→S'.j.kind≠3)∧((6:Int)=0→S'.j.kind=S.j.kind)) w3 from ⟨p3,S3,h3,hI3,hs2.trans hs3,hst2'.trans hst3,fun _=>hk,fun h9=>absurd h9 (by decide)⟩)
   clear kX h3 hI3 hs3 hst3 hk hst2'
   go_wp2
   exact bodyPost_end (v:=.tuple #[]) (results_none rfl _ _ _) rfl ⟨rfl,hfin.out⟩
end
section
variable {w w':World} {S:SimS} {p:List By} {Ws:List (Nat→By)} {W:Nat→By}
def endR (S S':SimS) (Ws Ws':List (Nat→By)) (W:Nat→By):Prop :=
 (S.j.kind≠3∧S'.ys=S.ys∧Ws'=Ws)∨(S.j.kind=3∧Ws'=Ws++[W]∧S'.ys.map (·.1.nm)=S.ys.map (·.1.nm)++[S.nm])
def endsP (w:World) (S:SimS) (Ws:List (Nat→By)) (W:Nat→By) (e:Ending) (w':World):Prop :=
 e=.returned (.tuple #[])∧∃p' S' Ws',SimW w' S'∧Inv S' p' Ws' W∧S'.wb=S.wb∧S'.n=S.n∧StepO w (allF (simF S)) w' (allF (simF S'))∧S'.j.kind≠3∧endR S S' Ws Ws' W
def midJ (w:World) (S:SimS) (Ws:List (Nat→By)) (W:Nat→By) (k:Nat) (wr:World) (S':SimS):Prop :=
 ∃p' Ws',SimW wr S'∧Inv S' p' Ws' W∧S'.wb=S.wb∧S'.n=S.n∧S'.ys.length≤15∧StepO w (allF (simF S)) wr (allF (simF S')) ∧
  ((S'.ys=S.ys∧S'.nm=S.nm∧Ws'=Ws∧((S.j.kind≠3∧S'.j.kind≠3)∨(S.j.kind=3∧S'.j.kind=3∧leftS S'+k≤6)))∨(S.j.kind=3∧S'.j=.none∧Ws'=Ws++[W]∧S'.ys.map (·.1.nm)=S.ys.map (·.1.nm)++[S.nm]))
theorem Inv.left (h:Inv S p Ws W):leftS S≤6:=by
 have hJ:=h.job
 unfold JobOk at hJ
 unfold leftS
 cases hj:S.j with
 | none=>exact Nat.zero_le _
 | merge jb mp b l ov=>exact Nat.zero_le _
 | pull jb ov=>exact Nat.zero_le _
 | push jb lm gm o l G ov =>
   simp only [hj] at hJ ⊢
   have:=hJ.2.len
   have h2:=cnt_le l
   have h3:=h.ok.n
   omega
theorem mid_start (h:SimW w S) (hI:Inv S p Ws W) (hf:S.ys.length≤14):midJ w S Ws W 0 w S:=by
 refine ⟨p,Ws,h,hI,rfl,rfl,by omega,StepO.fr0 (Fr.refl [] w),.inl ⟨rfl,rfl,rfl,?_⟩⟩
 by_cases hk:S.j.kind=3
 ·exact .inr ⟨hk,hk,by have:=hI.left;omega⟩
 ·exact .inl ⟨hk,hk⟩
theorem mid_next {k:Nat} {wr w2:World} {S':SimS} {Ws1:List (Nat→By)} (hf:S.ys.length≤14) (hj:S'.j≠.none)
 (h5:StepO w (allF (simF S)) wr (allF (simF S'))) (h3:S'.wb=S.wb) (h4:S'.n=S.n)
 (h6:(S'.ys=S.ys∧S'.nm=S.nm∧Ws1=Ws∧((S.j.kind≠3∧S'.j.kind≠3)∨(S.j.kind=3∧S'.j.kind=3∧leftS S'+k≤6)))∨(S.j.kind=3∧S'.j=.none∧Ws1=Ws++[W]∧S'.ys.map (·.1.nm)=S.ys.map (·.1.nm)++[S.nm]))
 (hs:stP wr S' Ws1 W w2):∃S2,midJ w S Ws W (k+1) w2 S2:=by
 obtain ⟨p2,S2,Ws2,g1,g2,g3,g4,g5,g6⟩:=hs
 rcases h6 with ⟨a1,a2,a3,a4⟩ | ⟨_,a2,_⟩
 ·subst a3
  rcases g6 with ⟨b1,b2,b3,b4⟩ | ⟨b1,b2,b3,b4,b5⟩
  ·refine ⟨S2,p2,Ws2,g1,g2,g3.trans h3,g4.trans h4,by rw [b1,a1];omega,h5.trans g5,.inl ⟨b1.trans a1,b2.trans a2,b3,?_⟩⟩
   rcases b4 with ⟨c1,c2⟩ | ⟨c1,c2,c3⟩
   ·rcases a4 with ⟨d1,d2⟩ | ⟨d1,d2,d3⟩
    ·exact .inl ⟨d1,c2⟩
    ·exact absurd d2 c1
   ·rcases a4 with ⟨d1,d2⟩ | ⟨d1,d2,d3⟩
    ·exact absurd c1 d2
    ·exact .inr ⟨d1,c2,by omega⟩
  ·have hS3:S.j.kind=3:=by
    rcases a4 with ⟨d1,d2⟩ | ⟨d1,_⟩
    ·exact absurd b1 d2
    ·exact d1
   have hl:S2.ys.length=S'.ys.length+1:=by have:=congrArg List.length b5;simpa using this
   exact ⟨S2,p2,Ws2,g1,g2,g3.trans h3,g4.trans h4,by rw [hl,a1];omega,h5.trans g5,.inr ⟨hS3,b2,b4,by rw [b5,a1,a2]⟩⟩
 ·exact absurd a2 hj
theorem mid_end {k:Nat} {wr:World} {S':SimS} (h:midJ w S Ws W k wr S') (hk:k=40∨S'.j.kind=0):endsP w S Ws W (.returned (.tuple #[])) wr:=by
 obtain ⟨p',Ws',h1,h2,h3,h4,_,h5,⟨a1,a2,a3,a4⟩ | ⟨a1,a2,a3,a4⟩⟩:=h
 ·rcases a4 with ⟨d1,d2⟩ | ⟨d1,d2,d3⟩
  ·exact ⟨rfl,p',S',Ws',h1,h2,h3,h4,h5,d2,.inl ⟨d1,a1,a3⟩⟩
  ·rcases hk with hk | hk
   ·omega
   ·rw [hk] at d2;cases d2
 ·exact ⟨rfl,p',S',Ws',h1,h2,h3,h4,h5,by rw [a2];simp [JobS.kind],.inr ⟨a1,a3,a4⟩⟩
theorem kind_pos {S:SimS} (h:S.j≠.none):0<S.j.kind:=by
 cases hj:S.j with
 | none=>exact absurd hj h
 | merge jb mp b l ov=>simp [JobS.kind]
 | pull jb ov=>simp [JobS.kind]
 | push jb lm gm o l G ov=>simp [JobS.kind]
theorem tEnds_calls (h:SimW w S) (hI:Inv S p Ws W) (hf:S.ys.length≤14):Calls Tryz.prog 9 #[.pointer (some ⟨S.wb,0,none⟩)] w (endsP w S Ws W):=by
 have e0:strL []=Value.string ⟨#[]⟩:=rfl
 have hst:=hidIt (mid_start h hI hf)
 obtain ⟨wb,hwb⟩:∃x,Hid (S.wb=x):=⟨_,hidIt rfl⟩
 rw [hwb.out]
 go_enter Tryz.func9,Tryz.ntmps9
 go_wp2_with fail
 go_loopw [2] (fun i wr=>∃k:Nat,k≤40∧i=.int .i64 (k:Int)∧Hid (∃S',midJ w S Ws W k wr S')) (fun i _=>40 - (intOf i).toNat)
 case atStart=>exact ⟨0,by omega,rfl,hidIt ⟨_,hst.out⟩⟩
 case round =>
 obtain ⟨k,hk,rfl,hm⟩:=hrel
 by_cases hk40:k<40
 case neg =>
  have hk':¬(k:Int)<40:=by omega
  have hke:k=40:=by omega
  have hfin:=hidIt (let ⟨_,h9⟩:=hm.out;mid_end h9 (.inl hke))
  clear hm hst h hI
  go_wp2_with fail
  exact bodyPost_end (v:=.tuple #[]) (results_none rfl _ _ _) rfl hfin.out
 have hk':(k:Int)<40:=by omega
 obtain ⟨S',p',Ws',h1,h2,h3,h4,h5,h6,h7⟩:=hm.out
 have hh3:=hidIt h3
 rw [hwb.out] at h3
 have kJ:=sJob_calls h1
 rw [h3] at kJ
 by_cases hj:S'.j=.none
 case pos =>
  have hfin:=hidIt (mid_end (k:=k) ⟨p',Ws',h1,h2,hh3.out,h4,h5,h6,h7⟩ (.inr (by rw [hj];rfl)))
  rw [hj] at kJ
  simp only [JobS.kind] at kJ
  clear hm hst h hI h1 h2 h6 h7 hj
  go_wp2_with fail
  refine kJ.mono ?_
  rintro e w2 ⟨rfl,hw2⟩
  rw [hw2]
  clear kJ
  go_wp2_with fail
  exact bodyPost_end (v:=.tuple #[]) (results_none rfl _ _ _) rfl hfin.out
 have hpos:=kind_pos hj
 have hys:S'.ys.length≤14:=by
  rcases h7 with ⟨a1,_⟩ | ⟨_,a1,_⟩
  ·rw [a1];exact hf
  ·exact absurd a1 hj
 have kD:=do_step h1 h2 hj hys
 simp only [stepC,e0] at kD
 rw [h3] at kD
 have hnx:=hidIt (fun w2 (g:stP wr S' Ws' W w2)=>mid_next hf hj h6 hh3.out h4 h7 g)
 obtain ⟨K,hK⟩:∃K,Hid (S'.j.kind=K):=⟨_,hidIt rfl⟩
 rw [hK.out] at kJ hpos
 clear hm hst h hI h1 h2 h6 h7 hj
 go_wp2_with fail
 refine kJ.mono ?_
 rintro e w2 ⟨rfl,hw2⟩
 rw [hw2]
 clear kJ hw2
 go_wp2_with fail
 refine kD.mono ?_
 rintro e w3 ⟨i,rfl,hs⟩
 have hn:=hidIt (hnx.out w3 hs)
 clear kD hs hnx
 go_wp2_with fail
 exact ⟨⟨k+1,by omega,by go_num,hidIt hn.out⟩,by show 40 - ((k:Int)+1).toNat<40 - ((k:Nat):Int).toNat;omega⟩
end
section
variable {w w':World}
theorem new_ok {S:SimS} {n:Nat} (hn:1≤n∧n≤6) (hS:S.n=n) (hs:S.s=nDsk) {c:Cd} (hL:S.L=[c]) (hc:c.x=⟨nDsk,[],newI 1 n 60⟩):OkW S []:=by
 have hx:S.L.map (·.x)=[⟨nDsk,[],newI 1 n 60⟩]:=by rw [hL];simp [hc]
 have hfd:fD [⟨nDsk,[],newI 1 n 60⟩] nDsk=some ⟨nDsk,[],newI 1 n 60⟩:=by simp [fD,nlFind]
 have hp:IsPath [⟨nDsk,[],newI 1 n 60⟩] nDsk []:=⟨_,hfd,rfl⟩
 refine ⟨?_,by rw [hx,hs];exact hp,by rw [hS];exact hn,Nat.zero_le _⟩
 rw [hx,hS]
 refine ⟨List.pairwise_singleton _ _,fun d hd=>?_,fun d hd=>?_,fun d hd=>?_,by simp⟩
 ·rw [List.mem_singleton.1 hd]
  exact ⟨newI_ok (by decide) (by omega) (by decide),rfl,by simp [newI],by simp [newI],rfl⟩
 ·rw [List.mem_singleton.1 hd]
  show okName nDsk=true
  decide
 ·rw [List.mem_singleton.1 hd]
  exact ⟨[],hp,Nat.zero_le _⟩
def worldP (n:Nat) (w:World) (e:Ending) (w':World):Prop :=
 ∃S c,e=.returned (.pointer (some ⟨S.wb,0,none⟩))∧SimW w' S∧Inv S [] [] (fun _=>zBy 32)∧S.n=n∧S.ys=[]∧S.j=.none∧S.s=nDsk∧S.L=[c]∧c.x=⟨nDsk,[],newI 1 n 60⟩∧(∀k,allF (simF S) k→w.heap.size≤k)∧Fr [] w w'
theorem StepO.fresh {w1 w2:World} {o o':Nat→Prop} (hf:Fr [] w w1) (ho:∀k,o k→w.heap.size≤k) (hst:StepO w1 o w2 o'):(∀k,o' k→w.heap.size≤k)∧Fr [] w w2:=by
 refine ⟨fun k hk=>?_,?_⟩
 ·rcases hst.new k hk with h | h
  ·exact ho k h
  ·have:=hf.size;omega
 ·obtain ⟨M,h1,h2⟩:=hst.fr
  refine hf.trans h1 fun q hq hl=>?_
  have:=hf.size
  have:=ho q (h2 q hq (by omega))
  omega
theorem tWorld_calls (n:Nat) (hn:1≤n∧n≤6):Calls Tryz.prog 6 #[.int .i64 (n:Int)] w (worldP n w):=by
 have e0:strL []=Value.string ⟨#[]⟩:=rfl
 have e1:strL nM=Value.string ⟨#[109]⟩:=rfl
 have kN:=sNew_calls (w:=w) n hn
 unfold newSPost at kN
 go_enter Tryz.func6,Tryz.ntmps6
 go_wp2_with fail
 refine kN.mono ?_
 rintro e w1 ⟨wb,cb,mb,db,dm,fb,fm,lb,c,o,rfl,hcx,hS,hlow,hf1⟩
 clear kN
 obtain ⟨S,hSS⟩:∃S,Hid (newS wb cb mb db dm fb fm lb n c o=S):=⟨_,hidIt rfl⟩
 have q1:S.wb=wb:=by rw [←hSS.out];rfl
 have q2:S.n=n:=by rw [←hSS.out];rfl
 have q3:S.ys=[]:=by rw [←hSS.out];rfl
 have q4:S.j=.none:=by rw [←hSS.out];rfl
 have q5:S.s=nDsk:=by rw [←hSS.out];rfl
 have q6:S.L=[c]:=by rw [←hSS.out];rfl
 have q7:S.E=[]:=by rw [←hSS.out];rfl
 rw [hSS.out] at hS hlow
 clear hSS
 subst q1
 have hO:=new_ok hn q2 q5 q6 hcx
 have kD:=sDo_calls (w:=w1) 21 S.wb (Q:=fun i w'=>i=0∧∃c:Cel,c.x=⟨nM,true,true,2*S.n,2,List.replicate (gran (2*S.n) 2) false⟩∧SimW w' { S with E:=[c] }∧StepO w1 (allF (simF S)) w' (allF (simF { S with E:=[c] }))) 4 2 0 none 0 0 nM [] none 0 0 (by decide) (by simp [upd]) cal_bitmap (fun X hX=>by
  refine (sBitmap_calls (hS.fr0 hX) hO 4 0 none 0 0 nM [] none 0 0 (by decide) q7).mono ?_
  rintro e w2 ⟨rfl,cc,g1,g2,g3⟩
  exact ⟨_,rfl,rfl,cc,g1,g2,(StepO.fr0 hX).trans g3⟩)
 simp only [stepC,e0,e1] at kD
 have hend:=hidIt (fun (w2:World) (cc:Cel) (g1:cc.x=⟨nM,true,true,2*S.n,2,List.replicate (gran (2*S.n) 2) false⟩) (g2:SimW w2 { S with E:=[cc] }) (g3:StepO w1 (allF (simF S)) w2 (allF (simF { S with E:=[cc] })))=>show worldP n w (.returned (.pointer (some ⟨S.wb,0,none⟩))) w2 from by
  obtain ⟨f1,f2⟩:=g3.fresh hf1 hlow
  refine ⟨{ S with E:=[cc] },c,rfl,g2,?_,q2,q3,q4,q5,q6,hcx,f1,f2⟩
  refine ⟨⟨hO.ok,hO.path,hO.n,hO.deep⟩,?_,?_,?_,?_,fun k _=>by simp [zBy],⟨cc,rfl,?_⟩,?_,?_⟩
  ·show GoodL (S.ys.map (·.1))
   rw [q3]
   exact ⟨(fun b hb=>by cases hb),List.Pairwise.nil,(fun i b hi=>by cases hi),Nat.zero_le _⟩
  ·show ∀y∈S.ys,y.1.n=S.n
   rw [q3]
   intro y hy
   cases hy
  ·show ([]:List (Nat→By)).length=S.ys.length
   rw [q3]
   rfl
  ·show ∀i,i<S.ys.length→_
   rw [q3]
   intro i hi
   cases hi
  ·unfold OkE1
   rw [g1]
   exact ⟨rfl,rfl,rfl,rfl,rfl,by simp⟩
  ·unfold JobOk
   rw [show ({ S with E:=[cc] }:SimS).j=S.j from rfl,q4]
   trivial
  ·intro _ h2
   exact absurd q3 h2)
 clear hS hlow hO q2 q3 q4 q5 q6 q7 hcx
 go_wp2_with fail
 refine kD.mono ?_
 rintro e w2 ⟨i,rfl,rfl,cc,g1,g2,g3⟩
 have hfin:=hidIt (hend.out w2 cc g1 g2 g3)
 clear kD g1 g2 g3 hend
 go_wp2
 go_ret
 exact hfin.out
end
section
variable {w w':World} {S:SimS} {p:List By} {Ws:List (Nat→By)} {W:Nat→By}
theorem restore_at {lb:Nat} {o:Nat→Prop} {v:Value} {ys':List Bkv} (hI:Inv S p Ws W) (hy:ys'.map (·.1)=S.ys.map (·.1)) (hL:LstW w lb o v ys') (i:Nat) (hi:i<S.ys.length) :
 Calls Tryz.prog 12 #[.pointer (some ⟨lb,0,none⟩),strL (S.ys.getD i zBv).1.nm] w (lsResPost w (catN S.n (Ws.getD i (fun _=>[])))):=by
 have hlen:ys'.length=S.ys.length:=by have:=congrArg List.length hy;simpa using this
 have hi':i<ys'.length:=by omega
 have he:(ys'.getD i zBv).1=(S.ys.getD i zBv).1:=by
  have h1:=nm_at hi'
  rw [hy,nm_at hi] at h1
  injection h1 with h1
  exact h1.symm
 have hns:∀y∈ys',y.1.n=S.n:=fun y hym=>by
  have hm:y.1∈ys'.map (·.1):=List.mem_map.2 ⟨y,hym,rfl⟩
  rw [hy] at hm
  obtain ⟨y2,h2,h3⟩:=List.mem_map.1 hm
  rw [←h3]
  exact hI.ns y2 h2
 have k:=lsRestore_calls S.n (by rw [hy];exact hI.good) hns hI.ok.n.1 i w hL hi'
 rw [he,hy,catN_congr (hI.cont i hi)] at k
 exact k
theorem kind_none (h:S.j.kind=0):S.j=.none:=by
 cases hj:S.j with
 | none=>rfl
 | merge jb mp b l ov=>rw [hj] at h;cases h
 | pull jb ov=>rw [hj] at h;cases h
 | push jb lm gm o l G ov=>rw [hj] at h;cases h
theorem first_byte {S1:SimS} {c c':Cd} {p2:Pl} (hO:OkW S []) (hn:S.n=3) (hL:S.L=[c]) (hcx:c.x=⟨nDsk,[],newI 1 3 60⟩) (hc:fK S.L S.s=some c') (b:By) (hb:b.length=16) (h1:S1.L=setK S.L S.s p2 (wrRes S [] c' 0 b).2) (h2:S1.s=S.s) :
 (vw S1 [] 0).getD 0 0=b.getD 0 0:=by
 have hcc:c'=c:=by
  have hm:=(nlFind_mem hc).1
  rw [hL] at hm
  exact List.mem_singleton.1 hm
 subst hcc
 have hcm:c'∈S.L:=by rw [hL];exact List.mem_singleton.2 rfl
 have hI:=hO.ims c' hcm
 have hbel:=hO.ok.bel (List.mem_map.2 ⟨c',hcm,rfl⟩) []
 have hM:c'.x.M=newI 1 3 60:=by rw [hcx]
 have hz:c'.x.M.z=32:=by unfold Img.z;rw [hI.2.1]
 have h0:(wrRes S [] c' 0 b).1=0:=by
  unfold wrRes writeE
  rw [if_neg (by rw [hb];decide),hb]
  have hin:insideI c'.x.M 0 ((16 / 16:Nat):Int)=0:=by rw [hM];decide
  rw [if_neg (fun h=>h hin)]
  have hf:freeN c'.x.M.n=60:=by rw [hM];exact newI_free 1 3 60
  have hp:pcN c'.x.M.z (0:Int).toNat (16 / 16)=1:=by rw [hz];decide
  have hne:=needN_le false c'.x.M (0:Int).toNat (16 / 16) (pcN c'.x.M.z (0:Int).toNat (16 / 16))
  rw [if_neg (by rw [hf];omega)]
 obtain ⟨a',n',ha,h16,_,hw⟩:=write_vis (R:=(wrRes S [] c' 0 b).2) hI.1 (bel:=belL (dkS S) S.n []) hbel (x:=0) (b:=b) (show wrRes S [] c' 0 b=(0,(wrRes S [] c' 0 b).2) from Prod.ext h0 rfl)
 have ha':a'=0:=by omega
 subst ha'
 have hn':n'=1:=by omega
 subst hn'
 have hv:=hw.vis 0
 rw [if_pos (by omega)] at hv
 have hzR:(wrRes S [] c' 0 b).2.z=32:=by unfold Img.z;rw [hw.B,hI.2.1]
 have hx:=visX_at (M:=(wrRes S [] c' 0 b).2) (U:=fun c=>(belL (dkS S) S.n []).getD c []) (c:=0) (r:=0) (by rw [hzR];decide)
 rw [Nat.zero_mul,Nat.zero_add] at hx
 have e:vw S1 [] 0=visC (wrRes S [] c' 0 b).2 0 ((belL (dkS S) S.n []).getD 0 []):=by
  unfold vw
  rw [show dkS S1=setM (dkS S) S.s (wrRes S [] c' 0 b).2 from by show S1.L.map _=_;rw [h1];exact setK_x _ _ _ _,h2,belL_at,if_pos (by omega)]
  exact seen_setM_top hO.path
 rw [e,←hx,hv]
theorem tLives_calls:Calls Tryz.prog 5 #[] w fun e w'=>e=.returned (.bool true)∧Fr [] w w':=by
 have e0:strL []=Value.string ⟨#[]⟩:=rfl
 have e1:strL [120]=Value.string ⟨#[120]⟩:=rfl
 have kW:=tWorld_calls (w:=w) 3 (by decide)
 unfold worldP at kW
 go_enter Tryz.func5,Tryz.ntmps5
 go_wp2_with fail
 refine kW.mono ?_
 rintro e w1 ⟨S,c,rfl,h1,hI1,hn,hys,hj,hs,hL,hcx,hlow,hf1⟩
 clear kW
 have kS:=tSector_calls 97 w1
 unfold secPost at kS
 go_wp2_with fail
 refine kS.mono ?_
 rintro e w2 ⟨v,rfl,hv,hvo,hf2⟩
 clear kS
 have h2:=h1.fr0 hf2
 obtain ⟨va,vc,rfl,hvl,_⟩:=SlF.open hv
 have hsb:(secB 97).length=16:=by decide
 rw [hsb] at hv hvo ⊢
 have kD:=do_write h2 hI1 0 va 16 vc (secB 97) (by decide) hv (fun k hk hh=>by
  have:=hvo k hk
  obtain ⟨i,hi⟩:=hh
  have:=h1.sep.low i k hi
  omega)
 unfold doP keptP at kD
 simp only [stepC,e0] at kD
 clear hv hvo hvl
 go_wp2_with fail
 refine kD.mono ?_
 rintro e w3 ⟨i,rfl,p3,S3,h3,hI3,hs3,hst3,rfl,hk3,c3,p2,hc3,hL3,hss3⟩
 have hfb:=first_byte hI1.ok hn hL (by rw [hcx]) hc3 (secB 97) hsb hL3 hss3
 clear kD
 have hj3:S3.j=.none:=kind_none (by rw [hk3,hj];rfl)
 have kP:=do_whole h3 hI3 hj3 (by rw [hs3.ys];exact hys) [120] (by decide)
 unfold pushP at kP
 simp only [stepC,e0,e1] at kP
 rw [hs3.wb] at kP
 go_wp2_with fail
 refine kP.mono ?_
 rintro e w4 ⟨rfl,S4,h4,hI4,hw4,hn4,hys4,hnm4,hkk4,hst4⟩
 clear kP
 have kE:=tEnds_calls h4 hI4 (by rw [hys4,hs3.ys,hys];decide)
 unfold endsP at kE
 rw [hw4] at kE
 go_wp2_with fail
 refine kE.mono ?_
 rintro e w5 ⟨rfl,p5,S5,Ws5,h5,hI5,hw5,hn5,hst5,hk5,hR⟩
 clear kE
 have hys0:S4.ys=[]:=hys4.trans (hs3.ys.trans hys)
 obtain ⟨hWs,hnm⟩:Ws5=[vw S3 []]∧S5.ys.map (·.1.nm)=[[120]]:=by
  rcases hR with ⟨h9,_⟩ | ⟨_,h9,h8⟩
  ·exact absurd hkk4 h9
  ·refine ⟨h9,?_⟩
   rw [h8,hys0,hnm4]
   rfl
 have hl5:S5.ys.length=1:=by have:=congrArg List.length hnm;simpa using this
 have hn5':S5.n=3:=hn5.trans (hn4.trans (hs3.n.trans hn))
 have hname:(S5.ys.getD 0 zBv).1.nm=[120]:=by
  cases hq:S5.ys with
  | nil=>rw [hq] at hl5;cases hl5
  | cons y r =>
    rw [hq] at hnm
    injection hnm with hnm _
 have kL:=sList_calls h5
 rw [hw5] at kL
 have kR:=restore_at hI5 rfl h5.lst 0 (by omega)
 rw [hname,e1,hn5',hWs] at kR
 unfold lsResPost at kR
 have hcat:(catN 3 ([vw S3 []].getD 0 fun _=>[])).length=96∧(catN 3 ([vw S3 []].getD 0 fun _=>[])).getD 0 0=97:=by
  have hlen:∀k,k<3→(([vw S3 []].getD 0 fun _=>[]) k).length=32:=fun k _=>vw_len hI3.ok k
  refine ⟨catN_len hlen,?_⟩
  rw [show catN 3 ([vw S3 []].getD 0 fun _=>[])=([vw S3 []].getD 0 fun _=>[]) 0++(([vw S3 []].getD 0 fun _=>[]) 1++(([vw S3 []].getD 0 fun _=>[]) 2++[])) from rfl]
  rw [List.getD_eq_getElem?_getD,List.getElem?_append_left (by rw [hlen 0 (by decide)];decide),←List.getD_eq_getElem?_getD]
  exact hfb
 have hlowf:=(((StepO.fr0 (o:=allF (simF S)) hf2).trans hst3).trans (hst4.trans hst5)).fresh hf1 hlow
 generalize catN 3 ([vw S3 []].getD 0 fun _=>[])=CT at *
 clear hR h1 h2 h3 h4 h5 hI1 hI3 hI4 hI5 hst3 hst4 hst5 hfb hnm hname hWs hys0 hys hys4 hlow hL hL3 hcx hc3
 go_wp2_with fail
 refine kL.mono ?_
 rintro e w6 ⟨rfl,rfl⟩
 go_wp2_with fail
 refine kL.mono ?_
 rintro e w6 ⟨rfl,rfl⟩
 go_wp2_with fail
 refine kR.mono ?_
 rintro e w7 ⟨u,rfl,hu,_,hf7⟩
 obtain ⟨ua,uc,rfl,_⟩:=SlF.open hu
 obtain ⟨b,off,rfl,hb,d0⟩:=SlY.at hu (i:=0) (by rw [hcat.1];decide)
 rw [hcat.2,Nat.add_zero] at d0
 rw [hcat.1] at hu ⊢
 have hfin:=hidIt (hlowf.2.trans0 hf7)
 clear hu hcat hlowf hf7 kL kR
 go_wp2
 go_ret
 exact ⟨rfl,hfin.out⟩
end
end Go.Proofs.YtffnihooekbcnaaGreat
namespace Go.Proofs.YtffnihooekbcnaaGreat
open Go.RowKit Go.Maps
def nameK (k:Nat):By:=[UInt8.ofNat (98+k)]
theorem nameK_ok {k:Nat} (h:k<12):okName (nameK k)=true:=by
 have:k=0∨k=1∨k=2∨k=3∨k=4∨k=5∨k=6∨k=7∨k=8∨k=9∨k=10∨k=11:=by omega
 rcases this with rfl | rfl | rfl | rfl | rfl | rfl | rfl | rfl | rfl | rfl | rfl | rfl <;> decide
theorem nameK_ne {j k:Nat} (hj:j<k) (hk:k<12):nameK j≠nameK k:=fun e=>by
 unfold nameK at e
 injection e with e _
 have:=congrArg UInt8.toNat e
 rw [UInt8.toNat_ofNat',UInt8.toNat_ofNat'] at this
 omega
theorem nameK_a {k:Nat} (hk:k<12):[97]≠nameK k:=fun e=>by
 unfold nameK at e
 injection e with e _
 have:=congrArg UInt8.toNat e
 rw [UInt8.toNat_ofNat'] at this
 have h97:(97:UInt8).toNat=97:=rfl
 omega
theorem owns_st {w w':World} {o o':Nat→Prop} {H n:Nat} {e:TypeId} {v:Value} {xs:List Value} (h:w.ownsRow H e 1 v n xs) (hst:StepO w o w' o') (hno:∀k,v.ownBlock=some k→¬o k):w'.ownsRow H e 1 v n xs∧∀k,v.ownBlock=some k→¬o' k:=by
 obtain ⟨M,hf,hM⟩:=hst.fr
 exact ⟨owns_fr h hf fun k hk hm=>hno k hk (hM k hm (h.lt k hk).2),fun k hk=>hst.out (hno k hk) (h.lt k hk).2⟩
theorem owns_one {w:World} {base:Nat} (e:TypeId) (s:Value) (h:base≤w.heap.size):(w.alloc (.cells #[s] e)).ownsRow base e 1 (.slice (some ⟨w.heap.size,0,none⟩) 1 1) 1 [s] :=
 ⟨rfl,.inr ⟨w.heap.size,1,#[s],rfl,h,heap_alloc_new w _,Nat.le_refl _,by decide,rfl,rfl⟩⟩
theorem conv_name {w:World} {k:Nat} (hk:k<12):(convert 31 9 (.slice (some ⟨w.heap.size,0,none⟩) 1 1)).run Tryz.prog (w.alloc (.cells #[.int .u8 (98+(k:Int))] 5))=.ok (strL (nameK k)) (w.alloc (.cells #[.int .u8 (98+(k:Int))] 5)):=by
 have ho:=owns_one (w:=w) (base:=0) 5 (.int .u8 (98+(k:Int))) (Nat.zero_le _)
 have he:(nameK k).flatMap byC=[.int .u8 (98+(k:Int))]:=by
  unfold nameK
  show [Value.int .u8 (((UInt8.ofNat (98+k)).toNat:Nat):Int)]=_
  rw [UInt8.toNat_ofNat']
  congr 2
  omega
 have ho2:(w.alloc (.cells #[.int .u8 (98+(k:Int))] 5)).ownsRow 0 5 1 (.slice (some ⟨w.heap.size,0,none⟩) 1 1) (nameK k).length ((nameK k).flatMap byC):=by rw [he];exact ho
 exact conv_str (l:=nameK k) (SlF.of_owns ho2)
structure RunX (w:World) (n wb:Nat) (nv av:Value) (wr:World) (S:SimS) (p:List By) (Ws:List (Nat→By)) (W:Nat→By) (N A:List By):Prop where
 sim:SimW wr S
 inv:Inv S p Ws W
 wb:S.wb=wb
 n:S.n=n
 one:S.ys≠[]
 nams:wr.ownsRow w.heap.size 9 1 nv N.length (N.flatMap strC)
 wass:wr.ownsRow w.heap.size 9 1 av A.length (A.flatMap strC)
 offn:∀q,nv.ownBlock=some q→¬allF (simF S) q
 offa:∀q,av.ownBlock=some q→¬allF (simF S) q
 ap:∀q,nv.ownBlock=some q→av.ownBlock≠some q
 low:∀q,allF (simF S) q→w.heap.size≤q
 fr:Fr [] w wr
section
variable {w wr w2:World} {n wb:Nat} {nv av:Value} {S S2:SimS} {p p2:List By} {Ws Ws2:List (Nat→By)} {W W2:Nat→By} {N A:List By}
theorem RunX.kept (h:RunX w n wb nv av wr S p Ws W N A) (hS:SimW w2 S2) (hI:Inv S2 p2 Ws2 W2) (hwb:S2.wb=S.wb) (hn:S2.n=S.n) (hys:S2.ys≠[]) (hst:StepO wr (allF (simF S)) w2 (allF (simF S2))):RunX w n wb nv av w2 S2 p2 Ws2 W2 N A:=by
 obtain ⟨a1,a2⟩:=owns_st h.nams hst h.offn
 obtain ⟨b1,b2⟩:=owns_st h.wass hst h.offa
 obtain ⟨c1,c2⟩:=hst.fresh h.fr h.low
 exact ⟨hS,hI,hwb.trans h.wb,hn.trans h.n,hys,a1,b1,a2,b2,h.ap,c1,c2⟩
theorem RunX.fr0 (h:RunX w n wb nv av wr S p Ws W N A) (hf:Fr [] wr w2):RunX w n wb nv av w2 S p Ws W N A :=
 h.kept (h.sim.fr0 hf) h.inv rfl rfl h.one (StepO.fr0 hf)
theorem flat_snoc (N:List By) (s:By):(N++[s]).flatMap strC=N.flatMap strC++[strL s]:=by rw [List.flatMap_append];rfl
theorem RunX.name (h:RunX w n wb nv av wr S p Ws W N A) {s:By} {nv':Value} (ho:w2.ownsRow w.heap.size 9 1 nv' (N.length+1) (N.flatMap strC++[strL s])) (hg:wr.grownBy w2 nv.ownBlock) (hl:nv'.ownBlock=nv.ownBlock∨nv'.ownBlock=some wr.heap.size) :
 RunX w n wb nv' av w2 S p Ws W (N++[s]) A:=by
 have hF:Fr nv.ownBlock.toList wr w2:=(Fr.refl _ wr).grown hg (fun y hy=>.inl (by rw [hy];simp))
 have hm:∀k∈nv.ownBlock.toList,nv.ownBlock=some k:=fun k hk=>by simpa using hk
 refine ⟨h.sim.off hF fun k hk=>h.offn k (hm k hk),h.inv,h.wb,h.n,h.one,by rw [List.length_append,flat_snoc];exact ho,owns_fr h.wass hF fun k hk hmk=>h.ap k (hm k hmk) hk,?_,h.offa,?_,h.low,h.fr.trans hF fun q hq hlt=>?_⟩
 ·intro q hq
  rcases hl with hl | hl
  ·exact h.offn q (by rw [←hl];exact hq)
  ·rw [hl] at hq
   injection hq with hq
   exact h.sim.free (by omega)
 ·intro q hq
  rcases hl with hl | hl
  ·exact h.ap q (by rw [←hl];exact hq)
  ·rw [hl] at hq
   injection hq with hq
   intro ha
   have:=(h.wass.lt q ha).2
   omega
 ·have:=(h.nams.lt q (hm q hq)).1
  omega
theorem RunX.was (h:RunX w n wb nv av wr S p Ws W N A) {s:By} {av':Value} (ho:w2.ownsRow w.heap.size 9 1 av' (A.length+1) (A.flatMap strC++[strL s])) (hg:wr.grownBy w2 av.ownBlock) (hl:av'.ownBlock=av.ownBlock∨av'.ownBlock=some wr.heap.size) :
 RunX w n wb nv av' w2 S p Ws W N (A++[s]):=by
 have hF:Fr av.ownBlock.toList wr w2:=(Fr.refl _ wr).grown hg (fun y hy=>.inl (by rw [hy];simp))
 have hm:∀k∈av.ownBlock.toList,av.ownBlock=some k:=fun k hk=>by simpa using hk
 refine ⟨h.sim.off hF fun k hk=>h.offa k (hm k hk),h.inv,h.wb,h.n,h.one,owns_fr h.nams hF fun k hk hmk=>h.ap k hk (hm k hmk),by rw [List.length_append,flat_snoc];exact ho,h.offn,?_,?_,h.low,h.fr.trans hF fun q hq hlt=>?_⟩
 ·intro q hq
  rcases hl with hl | hl
  ·exact h.offa q (by rw [←hl];exact hq)
  ·rw [hl] at hq
   injection hq with hq
   exact h.sim.free (by omega)
 ·intro q hq ha
  rcases hl with hl | hl
  ·exact h.ap q hq (by rw [←hl];exact ha)
  ·rw [hl] at ha
   injection ha with ha
   have:=(h.nams.lt q hq).2
   omega
 ·have:=(h.wass.lt q (hm q hq)).1
  omega
end
structure RunW (w:World) (n wb k:Nat) (nv av:Value) (wr:World) (S:SimS) (p:List By) (Ws:List (Nat→By)) (W:Nat→By):Prop where
 x:RunX w n wb nv av wr S p Ws W (S.ys.map fun y=>y.1.nm) (Ws.map (catN n))
 kind:S.j.kind≠3
 few:S.ys.length≤k+1
 nm:∀y∈S.ys,y.1.nm=[97]∨∃j,j<k∧y.1.nm=nameK j
section
variable {w wr w2:World} {n wb k:Nat} {nv av:Value} {S S2:SimS} {p p2:List By} {Ws Ws2:List (Nat→By)} {W W2 V:Nat→By}
theorem RunW.same (hx:RunX w n wb nv av w2 S2 p2 Ws2 W2 (S.ys.map fun y=>y.1.nm) (Ws.map (catN n))) (hR:RunW w n wb k nv av wr S p Ws W) (hy:S2.ys=S.ys) (hw:Ws2=Ws) (hk:S2.j.kind≠3):RunW w n wb (k+1) nv av w2 S2 p2 Ws2 W2:=by
 refine ⟨by rw [hy,hw];rw [hw] at hx;exact hx,hk,by rw [hy];have:=hR.few;omega,fun y hy2=>?_⟩
 rw [hy] at hy2
 rcases hR.nm y hy2 with h | ⟨j,h1,h2⟩
 ·exact .inl h
 ·exact .inr ⟨j,by omega,h2⟩
theorem RunW.more {nv' av':Value} (hx:RunX w n wb nv' av' w2 S2 p2 Ws2 W2 ((S.ys.map fun y=>y.1.nm)++[nameK k]) (Ws.map (catN n)++[catN n V])) (hR:RunW w n wb k nv av wr S p Ws W) (hy:S2.ys.map (·.1.nm)=S.ys.map (·.1.nm)++[nameK k]) (hw:Ws2=Ws++[V]) (hk:S2.j.kind≠3):RunW w n wb (k+1) nv' av' w2 S2 p2 Ws2 W2:=by
 refine ⟨?_,hk,?_,fun y hy2=>?_⟩
 ·rw [show (S2.ys.map fun y=>y.1.nm)=(S.ys.map fun y=>y.1.nm)++[nameK k] from hy,hw,List.map_append,List.map_cons,List.map_nil]
  rw [hw] at hx
  exact hx
 ·have:=congrArg List.length hy
  simp only [List.length_map,List.length_append,List.length_cons,List.length_nil] at this
  have:=hR.few
  omega
 ·have hm:y.1.nm∈S2.ys.map (·.1.nm):=List.mem_map.2 ⟨y,hy2,rfl⟩
  rw [hy] at hm
  rcases List.mem_append.1 hm with hm | hm
  ·obtain ⟨z,hz,he⟩:=List.mem_map.1 hm
   rcases hR.nm z hz with h | ⟨j,h1,h2⟩
   ·exact .inl (he ▸ h)
   ·exact .inr ⟨j,by omega,he ▸ h2⟩
  ·exact .inr ⟨k,by omega,List.mem_singleton.1 hm⟩
theorem RunW.new (hR:RunW w n wb k nv av wr S p Ws W) (hk:k<12):∀y∈S.ys,y.1.nm≠nameK k:=fun y hy e=>by
 rcases hR.nm y hy with h | ⟨j,h1,h2⟩
 ·exact nameK_a hk (h.symm.trans e)
 ·exact nameK_ne h1 hk (h2.symm.trans e)
end
theorem sList_at {w:World} {wb lb:Nat} {V:List Value} (hB:Blk w wb V 65) (hV:V[5]? = some (.pointer (some ⟨lb,0,none⟩))):Calls Tryz.prog 11 #[.pointer (some ⟨wb,0,none⟩)] w fun e w'=>e=.returned (.pointer (some ⟨lb,0,none⟩))∧w'=w:=by
 have c:w.cell? ⟨wb,5,none⟩=some (.pointer (some ⟨lb,0,none⟩)):=(hB.cell 5).trans hV
 go_enter Tryz.func11,Tryz.ntmps11
 go_wp2
 go_ret
 exact ⟨rfl,rfl⟩
end Go.Proofs.YtffnihooekbcnaaGreat
