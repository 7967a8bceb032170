/-
  Arguments that are rows of events, opened.
-/
import Derived.Test.YtffnihooekbcnaaGreatG41
set_option maxRecDepth 100000
set_option maxHeartbeats 6400000
namespace Go.Proofs.YtffnihooekbcnaaGreat
open Go.RowKit Go.ChangeShapes Go.WideShapes Go.ChangeAt Go.Deep
section
variable {H:Type} {enc:TypeId × Value→H} {w:World} {r:Reach} {base:Nat} {spare:Nat→Bool} {held:Bool} {v:Value} {d:DataW H} {p:List MemPlace}
theorem el_evt {n:Nat} {cs:List Value} {y:DataW H × List MemPlace} (h:DataW.trod enc Tryz.prog w 0 spare held n 37 cs=some y):∃x:Evt × Value,cs=evC x∧SlY w x.2 x.1.b∧okV x.2∧x.1.nm.length≤maxLen:=by
 obtain ⟨xs, m, _, _, hl, hxl, hf⟩ := DataW.trod_struct (fs := #[{ name := "At", type := 3, offset := 0, embedded := false, tag := "", pkgPath := "", byteOffset := 0 }, { name := "B", type := 31, offset := 1, embedded := false, tag := "", pkgPath := "", byteOffset := 8 }, { name := "Kind", type := 3, offset := 2, embedded := false, tag := "", pkgPath := "", byteOffset := 32 }, { name := "Name", type := 9, offset := 3, embedded := false, tag := "", pkgPath := "", byteOffset := 40 }]) Tryz.underlying37 h
 have hc:Tryz.prog.cellsOf 37=4:=by kernel_rfl
 have hci:Tryz.prog.cellsOf 3=1:=by kernel_rfl
 have hcs:Tryz.prog.cellsOf 9=1:=by kernel_rfl
 have hcy:Tryz.prog.cellsOf 31=1:=by kernel_rfl
 rw [hc] at hl
 match cs,hl with
 | [c0,c1,c2,c3],_ =>
   have h0:DataW.trod enc Tryz.prog w 0 spare held m 3 (List.take (Tryz.prog.cellsOf 3) (List.drop 0 [c0,c1,c2,c3]))=xs[0]?:=hf 0 _ rfl
   rw [hci] at h0
   have h1:DataW.trod enc Tryz.prog w 0 spare held m 31 (List.take (Tryz.prog.cellsOf 31) (List.drop 1 [c0,c1,c2,c3]))=xs[1]?:=hf 1 _ rfl
   rw [hcy] at h1
   have h2:DataW.trod enc Tryz.prog w 0 spare held m 3 (List.take (Tryz.prog.cellsOf 3) (List.drop 2 [c0,c1,c2,c3]))=xs[2]?:=hf 2 _ rfl
   rw [hci] at h2
   have h3:DataW.trod enc Tryz.prog w 0 spare held m 9 (List.take (Tryz.prog.cellsOf 9) (List.drop 3 [c0,c1,c2,c3]))=xs[3]?:=hf 3 _ rfl
   rw [hcs] at h3
   obtain ⟨y0,e0⟩:∃y0,xs[0]? = some y0:=⟨_,List.getElem?_eq_getElem (by rw [hxl];exact (by decide:(0:Nat)<4))⟩
   obtain ⟨y1,e1⟩:∃y1,xs[1]? = some y1:=⟨_,List.getElem?_eq_getElem (by rw [hxl];exact (by decide:(1:Nat)<4))⟩
   obtain ⟨y2,e2⟩:∃y2,xs[2]? = some y2:=⟨_,List.getElem?_eq_getElem (by rw [hxl];exact (by decide:(2:Nat)<4))⟩
   obtain ⟨y3,e3⟩:∃y3,xs[3]? = some y3:=⟨_,List.getElem?_eq_getElem (by rw [hxl];exact (by decide:(3:Nat)<4))⟩
   obtain ⟨a0,q0,w0⟩:=el_int Tryz.underlying3 (h0.trans e0)
   obtain ⟨l,q1,w1⟩:=el_bytes (u:=c1) (h1.trans e1)
   obtain ⟨a2,q2,w2⟩:=el_int Tryz.underlying3 (h2.trans e2)
   obtain ⟨a3,q3,w3⟩:=elI_str Tryz.underlying9 (h3.trans e3)
   cases q0;cases q2;cases q3
   exact ⟨(⟨a0,l,a2,a3⟩,c1),rfl,q1,w1,w3⟩
theorem in_evs (hok:Value.okWide Tryz.prog w r base 22 v) (h:DataW.Trod enc Tryz.prog w 0 spare held 22 v d p):∃l,EvsW w w.heap.size v l∧∀o∈l,o.nm.length≤maxLen:=by
 obtain ⟨rows,hl,ho⟩:=open_SlF (k:=4) evC (fun x=>SlY w x.2 x.1.b∧okV x.2∧x.1.nm.length≤maxLen) (fun _=>rfl) Tryz.underlying22 (by kernel_rfl) (by decide) (fun n cs y h=>el_evt h) (okWide_slice Tryz.underlying22 hok) h
 refine ⟨rows.map (·.1),⟨rows,rfl,hl,fun hp=>SlF.lt hl ?_,fun x hx=>BytW.start (ho x hx).1 (ho x hx).2.1⟩,fun o hm=>(by obtain ⟨x,hx,rfl⟩:=List.mem_map.1 hm;exact (ho x hx).2.2)⟩
 cases rows with
 | nil=>simp at hp
 | cons x l=>simp [evC]
end
end Go.Proofs.YtffnihooekbcnaaGreat
