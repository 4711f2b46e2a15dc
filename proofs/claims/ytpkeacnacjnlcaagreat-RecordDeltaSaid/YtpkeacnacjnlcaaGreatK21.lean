/- slices.Chunk of a ring's points: the iterator's contract, for every loop body that keeps the ring. -/
import Derived.Test.YtpkeacnacjnlcaaGreatK01
import Derived.Test.YtpkeacnacjnlcaaGreatK02
import Derived.Test.YtpkeacnacjnlcaaGreatK20
namespace Go.Proofs.YtpkeacnacjnlcaaGreat
open Go.RowKit Go.Shelf
attribute [local go_sem] Oper.semAt_some
/-- What the iterator asks of a round that goes on: all below B is as it was, and so are the two blocks of its own. -/
def KeepC (B Bs:Nat) (W W':World):Prop:=W.heap.size≤W'.heap.size∧∀i,i<B∨i=Bs∨i=Bs+1→W'.heap[i]?=W.heap[i]?
theorem KeepC.refl (B Bs:Nat) (W:World):KeepC B Bs W W:=⟨Nat.le_refl _,fun _ _=>rfl⟩
theorem KeepC.trans {B Bs:Nat} {W W' W'':World} (h:KeepC B Bs W W') (k:KeepC B Bs W' W''):KeepC B Bs W W'':=⟨Nat.le_trans h.1 k.1,fun i hi=>(k.2 i hi).trans (h.2 i hi)⟩
theorem KeepC.cell {B Bs:Nat} {W W':World} (h:KeepC B Bs W W') {p:Addr} (hp:p.block<B∨p.block=Bs∨p.block=Bs+1):W'.cell? p=W.cell? p:=World.cell?_of_block (h.2 p.block hp)
theorem KeepC.alloc {B Bs:Nat} {W:World} (hB:B≤W.heap.size) (hs:Bs+1<W.heap.size) (o:Obj):KeepC B Bs W (W.alloc o):=⟨by simp,fun i hi=>Below.heap_alloc W o i (by omega)⟩
theorem KeepC.drew {B Bs:Nat} {W W':World} (h:KeepC B Bs W W'):KeepC B Bs W W'.drew:=h
theorem KeepC.below {B Bs:Nat} {W W':World} (hb:Below W.heap.size W W') (hB:B≤W.heap.size) (hs:Bs+1<W.heap.size):KeepC B Bs W W':=⟨hb.size,fun i hi=>hb.block i (by omega)⟩
def chkM (len k:Nat):Nat:=min 16 (len-16*k)
def chkAt (ad:Addr) (len k:Nat):Array Value:=#[.slice (some (ad.add (16*k*2))) (chkM len k) (chkM len k)]
set_option maxRecDepth 100000 in
set_option maxHeartbeats 3200000 in
theorem chunk1_in (n:Nat) (hn:1≤n) (l B Bs cap:Nat) (ad:Addr) (len:Nat) (hlen:len≤1048576) (hcap:len≤cap) (hc2:cap≤9223372036854775807) (J Jx:List Nat→World→Prop)
 (W:World) (hJ:AbidesFrom W.heap.size J)
 (hY:∀x W1,x<chkN len→J (List.range x) W1→YieldAt Fence.wide (n-1) Tryz.prog l (chkAt ad len x) W1 fun e W'=>
   (e= .returned (.bool true)∧J (List.range x++[x]) W'∧KeepC B Bs W1 W')∨(e= .returned (.bool false)∧Jx (List.range x++[x]) W'))
 (hBs:W.cell? ⟨Bs,0,none⟩=some (.slice (some ad) len cap)) (hBn:W.cell? ⟨Bs+1,0,none⟩=some (.int .i64 16)) (h0:J [] W):
 CallsIn Fence.wide n Tryz.prog 152 #[.func (.yield l) #[] #[],.pointer (some ⟨Bs,0,none⟩),.pointer (some ⟨Bs+1,0,none⟩)] W fun e W'=>(∃v,e= .returned v)∧
  ((∃ys,ys=List.range (chkN len)∧J ys W')∨(∃pre,(∃k,k≤chkN len∧pre=List.range k)∧Jx pre W')):=by
 refine callsIn_of_wp Tryz.func152 rfl trivial ?_ rfl
 simp only[Tryz.ntmps152,List.size_toArray,List.length_cons,List.length_nil,Nat.reduceAdd,Nat.reduceSub,Array.replicate_succ,Array.replicate_zero,List.push_toArray,List.append_toArray,List.nil_append,List.cons_append]
 gi_wp2
 gi_loopw [4] (fun i wr=>∃k:Nat,k≤chkN len∧i= .int .i64 ((16*k:Nat):Int)∧J (List.range k) wr∧KeepC B Bs W wr) (fun i _=>2097152-(intOf i).toNat)
 case atStart=>exact⟨0,Nat.zero_le _,rfl,h0,KeepC.refl _ _ _⟩
 case round=>
  obtain⟨k,hk,rfl,hJs,hkp⟩:=hrel
  have hsz:=hkp.1
  have hb1:wr.cell? ⟨Bs,0,none⟩=some (.slice (some ad) len cap):=(hkp.cell (.inr (.inl rfl))).trans hBs
  have hb2:wr.cell? ⟨Bs+1,0,none⟩=some (.int .i64 16):=(hkp.cell (.inr (.inr rfl))).trans hBn
  obtain⟨i,hi⟩:∃i,i=16*k:=⟨_,rfl⟩
  rw[←hi]
  by_cases hlt:i<len
  ·have hkn:k<chkN len:=by unfold chkN;omega
   have hli:(i:Int)<(len:Int):=by omega
   obtain⟨m,hm⟩:∃m,m=chkM len k:=⟨_,rfl⟩
   have hY2:=hY k wr.drew hkn (hJ _ _ _ none hJs (only_drew (World.grownBy.refl wr none)) (fun r e=>by cases e))
   have hchk:chkAt ad len k=#[.slice (some (ad.add (i*2))) m m]:=by unfold chkAt;rw[←hi,←hm]
   have hmn:m≤16∧i+m≤len∧1≤m∧((m:Int)=16∨i+m=len):=by unfold chkM at hm;omega
   have hmin:min (16:Int) ((len-i:Nat):Int)=(m:Int):=by unfold chkM at hm;omega
   have hic:i≤len:=by omega
   have hcn:¬cap=i:=by omega
   rw[hchk]at hY2
   have HI:=Lib.hid (And.intro hi (And.intro hm hchk))
   have HY:=Lib.hid hY2
   have HK:=Lib.hid hkp
   clear hi hm hchk hY2 hY hJ
   gi_wp2
   refine wpIn_wide.2 ?_
   refine wp_region_held_drew (S:=fun V=>V.cell? ⟨Bs,0,none⟩=some (.slice (some ad) len cap)∧V.cell? ⟨Bs+1,0,none⟩=some (.int .i64 16)) (by kernel_rfl) ?_ (fun hHeld=>?_)
   ·exact⟨hb1,hb2⟩
   refine tk 0 ?_
   refine tk 1 ?_
   refine tk 2 ?_
   refine tk 3 ?_
   refine tk 4 ?_
   refine tk 5 ?_
   refine tk 6 ?_
   refine wpAnyH_done (by kernel_rfl) ?_ _
   have hb1:=hHeld.1
   have hb2:=hHeld.2
   obtain⟨fn,tmps,assign,body,hy,hR⟩:=HY.out
   have hR2:RoundIn Fence.wide (n-1) Tryz.prog l fn tmps assign body wr.drew (fun e W'=>∃bb,e= .returned (.bool bb)∧Hid ((bb=true∧J (List.range k++[k]) W'∧KeepC B Bs wr W')∨(bb=false∧Jx (List.range k++[k]) W'))):=by
    refine hR.mono ?_
    rintro e W' (⟨h1,h2,h3⟩|⟨h1,h2⟩)
    ·exact⟨true,h1,.inl ⟨rfl,h2,h3⟩⟩
    ·exact⟨false,h1,.inr ⟨rfl,h2⟩⟩
   have hw4:IntKind.i64.wrap ((i:Int)+(m:Int))=((i+m:Nat):Int):=by rw[IntKind.wrap_i64];omega
   have him:i≤i+m:=by omega
   have himc:i+m≤cap:=by omega
   have hne:¬i+m=i:=by omega
   have hsb:i+m-i=m:=by omega
   clear hR hkp hJs hHeld
   gi_wp2
   refine hR2.mono ?_
   rintro e W3 ⟨bb,rfl,hres⟩
   clear hR2 hy HY hb1 hb2
   rcases bb with _|_
   ·gi_wp2
    refine bodyPost_ret (results_none rfl _ _ _) rfl ?_
    rcases hres.out with ⟨h1,_⟩|⟨_,h2⟩
    ·cases h1
    ·exact⟨⟨_,rfl⟩,.inr ⟨_,⟨k+1,by omega,List.range_succ.symm⟩,h2⟩⟩
   ·have h3:J (List.range k++[k]) W3∧KeepC B Bs wr W3:=by
     rcases hres.out with ⟨_,h1,h2⟩|⟨h1,_⟩
     ·exact⟨h1,h2⟩
     ·cases h1
    have H3:=Lib.hid (And.intro h3.1 (HK.out.trans h3.2))
    have hb2:W3.cell? ⟨Bs+1,0,none⟩=some (.int .i64 16):=(H3.out.2.cell (.inr (.inr rfl))).trans hBn
    have hw5:IntKind.i64.wrap ((i:Int)+16)=((16*(k+1):Nat):Int):=by rw[IntKind.wrap_i64];have:=HI.out.1;omega
    clear h3 hres
    gi_wp2
    go_roundw
    case rel=>exact⟨k+1,by omega,rfl,by rw[List.range_succ];exact H3.out.1,H3.out.2⟩
    case measure=>simp[intOf];have:=HI.out.1;omega
  ·have hkn:k=chkN len:=by unfold chkN at *;omega
   have hli:¬(i:Int)<(len:Int):=by omega
   subst hkn
   gi_wp2
   go_end0
   exact⟨⟨_,rfl⟩,.inl (by first|exact⟨_,rfl,hJs⟩|exact hJs)⟩
theorem chunk_any (A:Option Addr) (len cap:Nat) (w:World):
 Calls Tryz.prog 95 #[.slice A len cap,.int .i64 16] w fun e w'=>e= .returned (.func (.func 152) #[] #[.pointer (some ⟨w.heap.size,0,none⟩),.pointer (some ⟨w.heap.size+1,0,none⟩)])∧w'=(w.alloc (.cells #[.slice A len cap] 25)).alloc (.cells #[.int .i64 16] 3):=by
 go_enter Tryz.func95,Tryz.ntmps95
 go_wp2
 go_ret
 exact⟨by first|rfl|simp,rfl⟩
theorem chunk_stops (n:Nat) (hn:1≤n) (B Bs cap len:Nat) (ad:Addr) (hlen:len≤1048576) (hcap:len≤cap) (hc2:cap≤9223372036854775807) (w:World) (hs:Bs+1<w.heap.size) (hc:w.cell? ⟨Bs,0,none⟩=some (.slice (some ad) len cap)) (hc':w.cell? ⟨Bs+1,0,none⟩=some (.int .i64 16)):
 SeqStopsK Fence.wide n Tryz.prog 152 #[.pointer (some ⟨Bs,0,none⟩),.pointer (some ⟨Bs+1,0,none⟩)] (chkAt ad len) (KeepC B Bs) (fun ys=>ys=List.range (chkN len)) (fun pre=>∃k,k≤chkN len∧pre=List.range k) (chkN len) w:=fun l J Jx W hW hJ _ hY h0=>
 chunk1_in n hn l B Bs cap ad len hlen hcap hc2 J Jx W hJ (fun x W1 hx hj=>hY _ x W1 hj (by simpa using hx)) ((hW.cell (p:=⟨Bs,0,none⟩) (by simp only;omega)).trans hc) ((hW.cell (p:=⟨Bs+1,0,none⟩) hs).trans hc') h0
end Go.Proofs.YtpkeacnacjnlcaaGreat
