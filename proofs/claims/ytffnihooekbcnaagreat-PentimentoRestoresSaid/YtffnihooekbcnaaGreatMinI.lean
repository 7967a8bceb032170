/-
  slices.Min of rows of numbers.
-/
import Derived.Test.YtffnihooekbcnaaGreatG00
import Derived.Test.YtffnihooekbcnaaGreatG08
set_option maxRecDepth 100000
set_option maxHeartbeats 6400000
namespace Go.Proofs.YtffnihooekbcnaaGreat
open Go.RowKit Go.Maps
theorem intAt {w:World} {a:Option Addr} {n cap:Nat} {l:List Int} (h:SlI w (.slice a n cap) l) {i:Nat} (hi:i<l.length):∃b off,a=some ⟨b,off,none⟩∧b<w.heap.size∧w.cell? ⟨b,off+i,none⟩=some (.int .i64 (l.getD i 0)):=by
 obtain ⟨a',cap',hv,_,_,hc⟩:=SlF.open h
 cases hv
 obtain ⟨b,off,rfl,hb,hc⟩:=hc 1 (fun _=>rfl) (by omega) i _ (getD_some 0 hi)
 have h0:=hc 0 _ rfl
 rw [Nat.mul_one,Nat.add_zero] at h0
 exact ⟨b,off,rfl,hb,h0⟩
def minPost (w:World) (l:List Int) (e:Ending) (w':World):Prop:=∃m:Int,e=.returned (.int .i64 m)∧m∈l∧(∀x∈l,m≤x)∧Fr [] w w'
theorem MinI_calls (v:Value) (l:List Int) (w:World) (hv:SlI w v l) (hl:l≠[]):Calls Tryz.prog 286 #[v] w (minPost w l):=by
 obtain ⟨a,cap,rfl,hlc,hcm,_⟩:=SlF.open hv
 unfold maxLen at hcm
 have hpos:0<l.length:=List.length_pos_iff.2 hl
 have hpos1:¬(l.length:Int)<1:=by omega
 obtain ⟨b,off,rfl,hb,d0⟩:=intAt hv hpos
 rw [Nat.add_zero] at d0
 have h0m:Hid (l.getD 0 0∈l.take 1∧∀x∈l.take 1,l.getD 0 0≤x):=hidIt (by
  cases l with
  | nil=>exact absurd rfl hl
  | cons y r=>simp)
 generalize l.getD 0 0=y0 at *
 go_enter Tryz.func286,Tryz.ntmps286
 go_wp2_with fail
 go_loopw [3,4] (fun m i wr=>∃(k:Nat) (y:Int),1≤k∧k≤l.length∧i=.int .i64 (k:Int)∧m=.int .i64 y∧Fr [] w wr∧Hid (y∈l.take k∧∀x∈l.take k,y≤x)) (fun _ i _=>l.length - (intOf i).toNat)
 case atStart=>exact ⟨1,y0,Nat.le_refl _,hpos,rfl,rfl,Fr.refl _ _,h0m⟩
 case round =>
  clear h0m d0
  obtain ⟨k,y,hk1,hk,rfl,rfl,hF,hy⟩:=hrel
  by_cases hlt:k<l.length
  case neg =>
   have hke:k=l.length:=by omega
   subst hke
   go_wp2
   go_ret
   have:=hy.out
   rw [List.take_length] at this
   exact ⟨y,rfl,this.1,this.2,hF⟩
  obtain ⟨b',off',he,_,d1⟩:=intAt (SlF.fr0 hv hF) hlt
  cases he
  have htk:Hid (l.take (k+1)=l.take k++[l.getD k 0]):=hidIt (by rw [List.take_succ_eq_append_getElem hlt,List.getD_eq_getElem?_getD,List.getElem?_eq_getElem hlt];rfl)
  generalize l.getD k 0=z at *
  obtain ⟨q,hq⟩:∃q,Hid ((if z<y then z else y)=q):=⟨_,hidIt rfl⟩
  have hy2:Hid (q∈l.take (k+1)∧∀x∈l.take (k+1),q≤x):=hidIt (by
   rw [htk.out,←hq.out]
   refine ⟨?_,fun x hx=>?_⟩
   ·rw [List.mem_append]
    split
    ·exact .inr (by simp)
    ·exact .inl hy.out.1
   ·rcases List.mem_append.1 hx with hx | hx
    ·have:=hy.out.2 x hx;split <;> omega
    ·rw [List.mem_singleton.1 hx];split <;> omega)
  clear hy htk
  go_wp2
  go_roundw
  case rel=>exact ⟨k+1,_,by omega,by omega,by go_num,rfl,hF,by rw [hq.out];exact hy2⟩
  case measure=>simp [intOf];omega
end Go.Proofs.YtffnihooekbcnaaGreat
