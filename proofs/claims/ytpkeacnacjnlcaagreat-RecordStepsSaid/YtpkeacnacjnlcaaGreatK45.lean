/- record.read: the walk. -/
import Derived.Test.YtpkeacnacjnlcaaGreatK08
import Derived.Test.YtpkeacnacjnlcaaGreatK20
import Derived.Test.YtpkeacnacjnlcaaGreatK44
namespace Go.Proofs.YtpkeacnacjnlcaaGreat
open Go.RowKit Go.Lib
def ReadPost (base:Nat) (w:World) (A:Option Addr) (n c:Nat) (rs:List Pt) (v:List UInt8) (e:Ending) (w':World):Prop:=
 ∃A' c',e= .returned (.slice A' (n+v.length/8) c')∧w'.ownsRow base 23 2 (.slice A' (n+v.length/8) c') (n+v.length/8) (ptsV (rs++ptsB v))∧w.grownBy w' (Value.slice A n c).ownBlock∧
  ((Value.slice A' (n+v.length/8) c').ownBlock=(Value.slice A n c).ownBlock∨∃g,(Value.slice A' (n+v.length/8) c').ownBlock=some g∧w.heap.size≤g)
set_option maxRecDepth 100000 in
set_option maxHeartbeats 3200000 in
theorem readW_any (base:Nat) (rs:List Pt) (v:List UInt8) (A B:Option Addr) (n c m mc:Nat) (w:World) (ho:w.ownsRow base 23 2 (.slice A n c) n (ptsV rs)) (hb:base≤w.heap.size) (hr:Reads w w.heap.size 1 B m (u8s v)) (hmc:m≤mc∧mc≤9223372036854775807)
 (hne:∀b,B=some b→some b.block≠(Value.slice A n c).ownBlock) (hm:m≤1048576∧n≤1048576):
 Calls Tryz.prog 60 #[.slice A n c,.slice B m mc] w (ReadPost base w A n c rs v):=by
 obtain⟨i0,hi0,hz0,hz1,hz2⟩:=info_parts info_point
 have hl:=hr.len8
 have HR:=Lib.hid (And.intro ho (And.intro hb (And.intro hr (And.intro hmc (And.intro hne (And.intro hm hl))))))
 obtain⟨hm1,hm2⟩:=hm
 clear ho hb hr hmc hne hl
 go_enter Tryz.func60,Tryz.ntmps60
 go_wp2_with fail
 go_loopw [0,5] (fun s i wr=>∃(j I:Nat) (A':Option Addr) (c':Nat),I≤m∧i= .int .i64 (I:Int)∧s= .slice A' (n+j) c'∧Hid (I=8*j∧wr.ownsRow base 23 2 (.slice A' (n+j) c') (n+j) (ptsV (rs++(ptsB v).take j))∧w.grownBy wr (Value.slice A n c).ownBlock∧
  ((Value.slice A' (n+j) c').ownBlock=(Value.slice A n c).ownBlock∨∃g,(Value.slice A' (n+j) c').ownBlock=some g∧w.heap.size≤g))) (fun _ i _=>m-(intOf i).toNat)
 case atStart=>exact⟨0,0,A,c,Nat.zero_le _,rfl,rfl,rfl,by simpa using HR.out.1,World.grownBy.refl _ _,.inl rfl⟩
 case round=>
  obtain⟨j,I,A',c',hI,rfl,rfl,HW⟩:=hrel
  have w8:IntKind.i64.wrap ((I:Int)+8)=(I:Int)+8:=by rw[IntKind.wrap_i64];omega
  have hrd:Reads wr wr.heap.size 1 B m (u8s v):=by
   refine Reads.more ⟨HR.out.2.2.1.1,fun h0=>?_⟩ HW.out.2.2.1.size
   obtain⟨ad,e,hb,hc⟩:=HR.out.2.2.1.2 h0
   exact⟨ad,e,hb,fun k u hu=>by rw[←hc k u hu];exact World.cell?_of_block (by rw[block_of_add];exact HW.out.2.2.1.block _ hb (HR.out.2.2.2.2.1 ad e))⟩
  by_cases hlt:I+8≤m
  ·have g1:(I:Int)+8≤(m:Int):=by omega
   have w4:IntKind.i64.wrap ((I:Int)+4)=(I:Int)+4:=by rw[IntKind.wrap_i64];omega
   have hv8:8*j+8≤v.length:=by have:=HW.out.1;have:=HR.out.2.2.2.2.2.2;omega
   have k1:=num_any v B m mc (I:Int) 4 wr hrd HR.out.2.2.2.1.1 HR.out.2.2.2.1.2 (by omega) (by omega)
   have k2:=num_any v B m mc ((I:Int)+4) 4 wr hrd HR.out.2.2.2.1.1 HR.out.2.2.2.1.2 (by omega) (by omega)
   unfold NumPost at k1 k2
   rw[show (I:Int)=((8*j:Nat):Int) by have:=HW.out.1;omega,show(4:Int)=((4:Nat):Int) from rfl,numR_ok (k:=8*j) (s:=4) (by omega) (by omega) (by omega)]at k1
   rw[show (I:Int)+4=((8*j+4:Nat):Int) by have:=HW.out.1;omega,show(4:Int)=((4:Nat):Int) from rfl,numR_ok (k:=8*j+4) (s:=4) (by omega) (by omega) (by omega)]at k2
   rw[show ((8*j:Nat):Int)=(I:Int) by have:=HW.out.1;omega]at k1
   rw[show ((8*j+4:Nat):Int)=(I:Int)+4 by have:=HW.out.1;omega]at k2
   have hl1:=numL_lt ((v.drop (8*j)).take 4)
   have hl2:=numL_lt ((v.drop (8*j+4)).take 4)
   have hc1:((v.drop (8*j)).take 4).length=4:=by rw[List.length_take,List.length_drop];omega
   have hc2:((v.drop (8*j+4)).take 4).length=4:=by rw[List.length_take,List.length_drop];omega
   rw[hc1]at hl1
   rw[hc2]at hl2
   obtain⟨X,hX⟩:∃X,numL ((v.drop (8*j)).take 4)=X:=⟨_,rfl⟩
   obtain⟨Y,hY⟩:∃Y,numL ((v.drop (8*j+4)).take 4)=Y:=⟨_,rfl⟩
   rw[hX]at k1 hl1
   rw[hY]at k2 hl2
   have hpt:ptOfB v j=⟨(X:Int)-1073741824,(Y:Int)-1073741824⟩:=by unfold ptOfB;rw[hX,hY]
   have hj8:j<v.length/8:=by omega
   have htk:(ptsB v).take (j+1)=(ptsB v).take j++[⟨(X:Int)-1073741824,(Y:Int)-1073741824⟩]:=by
    have hlt2:j<(ptsB v).length:=by unfold ptsB;rw[List.length_map,List.length_range];exact hj8
    rw[List.take_succ_eq_append_getElem hlt2]
    rw[show (ptsB v)[j]'hlt2=ptOfB v j by simp[ptsB],hpt]
   have e1:IntKind.i64.wrap ((X:Int)-1073741824)=(X:Int)-1073741824:=by rw[IntKind.wrap_i64];omega
   have e2:IntKind.i64.wrap ((Y:Int)-1073741824)=(Y:Int)-1073741824:=by rw[IntKind.wrap_i64];omega
   have K1:=Lib.hid k1
   have K2':=Lib.hid k2
   have HT:=Lib.hid (And.intro htk (show j+1≤1048576 by have:=HW.out.1;omega))
   have hw0:Below wr.heap.size wr (wr.alloc (.cells #[.int .i64 ((X:Int)-1073741824),.int .i64 ((Y:Int)-1073741824)] 23)):=(Below.refl _ _).alloc (Nat.le_refl _) _
   have HQ:=Lib.hid (And.intro (own_below HW.out.2.1 hw0) (And.intro (Reads.made wr #[.int .i64 ((X:Int)-1073741824),.int .i64 ((Y:Int)-1073741824)] 23 (0,0) 2 1 (ptsV [⟨(X:Int)-1073741824,(Y:Int)-1073741824⟩]) rfl rfl) (And.intro hw0 (Nat.le_trans (Nat.le_trans HR.out.2.1 HW.out.2.2.1.size) hw0.size))))
   have HJI:=Lib.hid (And.intro (show I+8≤m from hlt) HW.out.1)
   clear k1 k2 hl1 hl2 hc1 hc2 hX hY hpt hj8 htk hw0 hv8 hrd hI hlt
   go_wp2_with fail
   refine K1.out.mono ?_
   rintro e w5 ⟨rfl,rfl⟩
   go_wp2_with fail
   refine K2'.out.mono ?_
   rintro e w6 ⟨rfl,rfl⟩
   go_wp2_with (at_builtin;refine wpList_append_any _ rfl (.tmp 30) (.tmp 36) _ rfl base 23 i0 _ 2 16 Tryz.underlying25 hi0 hz0 hz1 hz2 rfl (Nat.zero_lt_succ _) (.slice A' (n+j) c') (n+j) _ rfl HQ.out.1 _ (some ⟨wr.heap.size,0,none⟩) 1 1 _ rfl HQ.out.2.1 (ptsV_one _) (by have:=HT.out.2;simp only[maxLen];omega) (by have:=HT.out.2;omega) HQ.out.2.2.2 ?_
                intro v7 w7 hown7 hg7 hat7
                obtain⟨A7,c7,rfl⟩:=own_form hown7)
   have H7:=Lib.hid (And.intro hown7 (And.intro hg7 hat7))
   clear hown7 hg7 hat7 K1 K2'
   go_roundw
   case rel=>
    refine⟨j+1,I+8,A7,c7,HJI.out.1,by go_num,rfl,by have:=HJI.out.2;omega,?_,?_,?_⟩
    ·rw[HT.out.1,←List.append_assoc,ptsV_append]
     exact H7.out.1
    ·refine HW.out.2.2.1.andThen (((World.grownBy_alloc _ _ none).but _).trans H7.out.2.1) fun k hk=>?_
     rcases HW.out.2.2.2 with e|⟨g,e,hg⟩
     ·exact .inr (e.symm.trans hk)
     ·rw[e]at hk
      cases hk
      exact .inl hg
    ·rcases H7.out.2.2 with e|e
     ·rcases HW.out.2.2.2 with e'|⟨g,e',hg⟩
      ·exact .inl (e.trans e')
      ·exact .inr ⟨g,e.trans e',hg⟩
     ·exact .inr ⟨_,e,Nat.le_trans HW.out.2.2.1.size HQ.out.2.2.1.size⟩
   case measure=>have:=HJI.out.1;simp[intOf];omega
  ·have g1:¬(I:Int)+8≤(m:Int):=by omega
   have hj:j=v.length/8:=by have:=HW.out.1;have:=HR.out.2.2.2.2.2.2;omega
   have hall:(ptsB v).take j=ptsB v:=List.take_of_length_le (by unfold ptsB;rw[List.length_map,List.length_range];omega)
   rw[hall,hj]at HW
   have HJ:=Lib.hid hj
   have HB:=Lib.hid HW.out
   clear hj hall HW hrd hlt hI
   go_wp2_with fail
   go_ret
   exact⟨A',c',by rw[←HJ.out];rfl,HB.out.2⟩
end Go.Proofs.YtpkeacnacjnlcaaGreat
