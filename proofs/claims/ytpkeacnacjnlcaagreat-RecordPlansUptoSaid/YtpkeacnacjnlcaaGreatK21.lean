/- merestonelaw14.chunk, find, rising: the walks. -/
import Derived.Test.YtpkeacnacjnlcaaGreatK08
import Derived.Test.YtpkeacnacjnlcaaGreatK17
import Derived.Test.YtpkeacnacjnlcaaGreatK20
namespace Go.Proofs.YtpkeacnacjnlcaaGreat
open Go.RowKit Go.Lib
theorem take_ptB {r:List Pt} {s j:Nat} (h:s+j<r.length):((r.drop s).take (j+1)).flatMap ptB=((r.drop s).take j).flatMap ptB++ptB (ptAt r (s+j)):=by
 have hj:j<(r.drop s).length:=by rw[List.length_drop];omega
 rw[List.take_succ_eq_append_getElem hj,List.flatMap_append,List.getElem_drop,ptAt_lt h]
 simp
set_option maxRecDepth 100000 in
set_option maxHeartbeats 1600000 in
theorem chunkL_any (r:List Pt) (A:Option Addr) (n cap k:Nat) (w:World) (hr:Reads w w.heap.size 2 A n (ptsV r)) (hn:n≤128) (hk:16*k<n) (hg:∀q∈r,good q=true):
 Calls Tryz.prog 53 #[.slice A n cap,.int .i64 (k:Int)] w (Own8 (chunkB r k) w):=by
 obtain⟨i0,hi0,hz0,hz1,hz2⟩:=info_parts info_u8
 have e0:IntKind.i64.wrap (16*(k:Int))=((16*k:Nat):Int):=by rw[IntKind.wrap_i64];omega
 have e1:IntKind.i64.wrap (((16*k:Nat):Int)+16)=((16*k+16:Nat):Int):=by rw[IntKind.wrap_i64];omega
 have HRD:=Lib.hid (And.intro hr (And.intro hg (And.intro hr.lenPt hn)))
 obtain⟨T,hT⟩:∃T:Nat,T=16*k:=⟨_,rfl⟩
 obtain⟨E,hE⟩:∃E:Nat,E=T+16:=⟨_,rfl⟩
 rw[←hT]at e0 e1 hk
 rw[←hE]at e1
 have HT:=Lib.hid (And.intro hT (And.intro hk hE))
 clear hr hg hn hT hk hE
 go_enter Tryz.func53,Tryz.ntmps53
 go_wp2_with fail
 go_loopw [5,6] (fun b i wr=>∃(I nB cB:Nat) (B:Option Addr),T≤I∧I≤E∧I≤n∧i= .int .i64 (I:Int)∧b= .slice B nB cB∧Hid (wr.ownsRow w.heap.size 5 1 (.slice B nB cB) nB (u8s (((r.drop T).take (I-T)).flatMap ptB))∧Below w.heap.size w wr∧nB=8*(I-T))) (fun _ i _=>n-(intOf i).toNat)
 case atStart=>exact⟨T,0,0,none,Nat.le_refl _,by have:=HT.out;omega,by have:=HT.out;omega,rfl,rfl,by rw[Nat.sub_self];exact World.ownsRow_nil _ _ _ _,Below.refl _ _,by omega⟩
 case round=>
  obtain⟨I,nB,cB,B,hj0,hj,hjn,rfl,rfl,HW⟩:=hrel
  by_cases hlt:I<E∧I<n
  ·have g1:(I:Int)<(E:Int):=by omega
   have g2:(I:Int)<(n:Int):=by omega
   have hw1:IntKind.i64.wrap ((I:Int)+1)=(I:Int)+1:=by have:=HRD.out.2.2.2;rw[IntKind.wrap_i64];omega
   obtain⟨ad,rfl,hbd,-,-,-⟩:=(HRD.out.1.below HW.out.2.1).pt hlt.2
   obtain⟨hbk,p1,p2⟩:=(HRD.out.1.below HW.out.2.1).ptA hlt.2
   have KP:=ptL_any (ptAt r I) (ptAt_in HRD.out.2.1 (by rw[HRD.out.2.2.1];exact hlt.2)) wr
   unfold ptV at KP
   have KP2:=Lib.hid KP
   have HLT:=Lib.hid (And.intro hlt (And.intro hj0 (show I-T<16 by have:=HT.out.2.2;omega)))
   clear KP hlt hj hjn hj0
   generalize (ptAt r I).x=px at *
   generalize (ptAt r I).y=py at *
   go_wp2_with fail
   refine KP2.out.mono ?_
   rintro e w5 ⟨A5,c5,rfl,ho5,hb5⟩
   have hs5:w.heap.size≤wr.heap.size:=HW.out.2.1.size
   have H5:=Lib.hid (And.intro (own_below HW.out.1 hb5) (And.intro (Reads.of_own ho5) (And.intro (below_on HW.out.2.1 (Nat.le_refl _) hb5) (And.intro (Nat.le_trans hs5 hb5.size) (show nB+(ptB (ptAt r I)).length≤1000 by have:=HW.out.2.2;have:=HLT.out.2.2;rw[ptB_len];omega)))))
   clear KP2 ho5 hb5 hs5
   go_wp2_with (at_builtin;refine wpList_append_any _ rfl (.tmp 22) (.tmp 27) _ rfl w.heap.size 5 i0 _ 1 1 Tryz.underlying50 hi0 hz0 hz1 hz2 rfl (by omega) (.slice B nB cB) nB _ rfl H5.out.1 w5.heap.size A5 _ c5 _ rfl H5.out.2.1 (u8s_one _) (by have:=H5.out.2.2.2.2;simp only[maxLen];omega) (by have:=H5.out.2.2.2.2;omega) H5.out.2.2.2.1 ?_
                intro v6 w6 hown6 hg6 hat6
                obtain⟨A6,c6,rfl⟩:=own_form hown6
                have h6:=H5.out.2.2.1.grown hg6 H5.out.2.2.2.1 (fun g e=>(H5.out.1.lt g e).1)
                clear hg6 hat6)
   have H6:=Lib.hid (And.intro hown6 h6)
   clear hown6 h6
   go_roundw
   case rel=>exact⟨I+1,_,c6,A6,by have:=HLT.out;omega,by have:=HLT.out;omega,by have:=HLT.out;omega,by go_num,rfl,by
    have e:I+1-T=(I-T)+1:=by have:=HLT.out;omega
    rw[e,take_ptB (by have:=HLT.out;have:=HRD.out.2.2.1;omega),u8s_append,show T+(I-T)=I by have:=HLT.out;omega];exact H6.out.1,H6.out.2,by have:=HW.out.2.2;have:=HLT.out;rw[ptB_len];omega⟩
   case measure=>have:=HLT.out;simp[intOf];omega
  ·have hch:((r.drop T).take (I-T)).flatMap ptB=chunkB r k:=by
    unfold chunkB
    have:=HT.out
    have h2:=HRD.out.2.2.1
    rw[←this.1]
    by_cases h16:I-T=16
    ·rw[h16]
    ·rw[List.take_of_length_le (by rw[List.length_drop];omega),List.take_of_length_le (by rw[List.length_drop];omega)]
   rw[hch]at HW
   have hl:nB=(chunkB r k).length:=by have:=HW.out.1.1;rw[u8s_length]at this;omega
   have HCL:=Lib.hid hl
   clear hch hl
   by_cases g1:I<E
   ·have g2:(I:Int)<(E:Int):=by omega
    have g3:¬(I:Int)<(n:Int):=by omega
    clear hlt
    go_wp2_with fail
    go_ret
    exact⟨B,cB,by rw[←HCL.out];rfl,by rw[←HCL.out];exact HW.out.1,HW.out.2.1⟩
   ·have g2:¬(I:Int)<(E:Int):=by omega
    clear hlt
    go_wp2_with fail
    go_ret
    exact⟨B,cB,by rw[←HCL.out];rfl,by rw[←HCL.out];exact HW.out.1,HW.out.2.1⟩
end Go.Proofs.YtpkeacnacjnlcaaGreat
