/- merestoneref02.Check: the walk; ref Span: the walk; frame.PutNum: the walk; A drawn region by an invariant: one step for each operation, whatever has come up. -/
import Derived.Deep.DeepCutAuto
import Derived.Test.YtpkeacnacjnlcaaGreatK01
import Derived.Test.YtpkeacnacjnlcaaGreatK02
import Derived.Test.YtpkeacnacjnlcaaGreatK10
import Derived.Test.YtpkeacnacjnlcaaGreatK11
import Derived.Test.YtpkeacnacjnlcaaGreatK12
import Derived.Test.YtpkeacnacjnlcaaGreatK13
namespace Go.Proofs.YtpkeacnacjnlcaaGreat
open Go.RowKit
/-- Eight cells below W's end, as they are in V; and V is W but for new blocks. -/
abbrev Hold8 (W V:World) (p q r s:Addr) (px py qx qy rx ry sx sy:Int):Prop:=
 V.cell? p=some (.int .i64 px)∧V.cell? ⟨p.block,p.off+1,none⟩=some (.int .i64 py)∧V.cell? q=some (.int .i64 qx)∧V.cell? ⟨q.block,q.off+1,none⟩=some (.int .i64 qy)∧
 V.cell? r=some (.int .i64 rx)∧V.cell? ⟨r.block,r.off+1,none⟩=some (.int .i64 ry)∧V.cell? s=some (.int .i64 sx)∧V.cell? ⟨s.block,s.off+1,none⟩=some (.int .i64 sy)∧Below W.heap.size W V
theorem hold8 {W V V':World} {p q r s:Addr} {px py qx qy rx ry sx sy:Int} (hp:p.block<W.heap.size∧q.block<W.heap.size∧r.block<W.heap.size∧s.block<W.heap.size) (h:Hold8 W V p q r s px py qx qy rx ry sx sy) (hb:Below V.heap.size V V'):Hold8 W V' p q r s px py qx qy rx ry sx sy:=by
 obtain⟨h1,h2,h3,h4,h5,h6,h7,h8,h9⟩:=h
 have:=h9.size
 exact⟨(hb.cell (by omega)).trans h1,(hb.cell (by simp only;omega)).trans h2,(hb.cell (by omega)).trans h3,(hb.cell (by simp only;omega)).trans h4,(hb.cell (by omega)).trans h5,(hb.cell (by simp only;omega)).trans h6,(hb.cell (by omega)).trans h7,(hb.cell (by simp only;omega)).trans h8,below_on h9 (Nat.le_refl _) hb⟩
theorem pt_ext (p q:Pt):decide (p≠q)=decide (¬(p.x=q.x∧p.y=q.y)):=by
 obtain⟨a,b⟩:=p
 obtain⟨c,d⟩:=q
 simp
theorem signN {z:Int} (h:0<z):sgI z=1:=by unfold sgI;rw[if_neg (by omega),if_neg (by omega)]
set_option maxRecDepth 100000 in
set_option maxHeartbeats 3200000 in
theorem checkR_any (xs:List Pt) (A:Option Addr) (n cap:Nat) (w:World) (hr:Reads w w.heap.size 2 A n (ptsV xs)) (hn:n≤9223372036854775807) (hx:∀p∈xs,p.inI):
 Calls Tryz.prog 80 #[.slice A n cap] w fun e w'=>e= .returned (.int .i64 (checkI xs))∧Below w.heap.size w w':=by
 have hl:xs.length=n:=hr.lenPt
 have ka:=areaR_any xs A n cap w hr hn hx
 obtain⟨res,hres⟩:∃r,r=checkI xs:=⟨_,rfl⟩
 rw[←hres]
 by_cases hE:areaE xs=0
 ·obtain⟨hl128,hg⟩:=areaE_zero hE
  rw[hE,areaV_ok hE]at ka
  have hsm:small (areaZ xs):=by
   have:=areaS_bd hg xs.length
   rw[areaS_all]at this
   unfold small
   omega
  have ks:∀W,Calls Tryz.prog 119 #[i128 (areaZ xs)] W fun e w'=>e= .returned (.int .i64 (sgI (areaZ xs)))∧Below W.heap.size W w':=fun W=>signR_any _ W hsm
  unfold i128 at ka ks
  obtain⟨z,hz⟩:∃z,z=areaZ xs:=⟨_,rfl⟩
  rw[←hz]at ka ks
  have HR:Hid ((¬(3≤xs.length∧0<areaZ xs∧PairsOK xs)→res=4)∧(3≤xs.length∧0<areaZ xs∧PairsOK xs→res=0)):=⟨fun h=>by rw[hres,checkI_no hE h],fun h=>by rw[hres,checkI_ok hE h.1 h.2.1 h.2.2]⟩
  have HZ:=Lib.hid hz
  have HL:=Lib.hid hl
  have HG:=Lib.hid hg
  have HRD:=Lib.hid hr
  have HK:=Lib.hid (And.intro ka ks)
  have hn128:n≤128:=by omega
  clear hres hE hg hz hl hr ka ks hsm hx hl128 hn
  go_enter Tryz.func80,Tryz.ntmps80
  go_wp2_with fail
  with_reducible refine HK.out.1.mono ?_
  rintro e w1 ⟨rfl,hb1⟩
  by_cases h3:n<3
  ·have H4:Hid (res=4):=HR.out.1 fun h=>by have:=h.1;rw[HL.out]at this;omega
   have hd3:decide ((n:Int)<3)=true:=decide_eq_true (by omega)
   go_wp2_with fail
   go_ret
   exact⟨by rw[H4.out];rfl,hb1.alloc hb1.size _⟩
  ·have hd3:decide ((n:Int)<3)=false:=decide_eq_false (by omega)
   by_cases hzp:0<z
   ·have hs1:=signN hzp
    have HZP:=Lib.hid hzp
    clear hzp
    go_wp2_with fail
    with_reducible refine(HK.out.2 _).mono ?_
    rintro e w2 ⟨rfl,hb2⟩
    rw[hs1]
    have hb0:=below_on (hb1.alloc hb1.size (.cells #[.int .i64 (z/18446744073709551616),.int .u64 (z%18446744073709551616)] 37)) (Nat.le_refl _) hb2
    clear hb1 hb2 hs1
    go_wp2_with fail
    go_loopw [6] (fun i wr=>∃k:Nat,k≤n∧Hid (∀i j,i<k→i<j→j<n→pairOK xs i j=true)∧i= .int .i64 (k:Int)∧Below w.heap.size w wr) (fun i _=>n-(intOf i).toNat)
    case atStart=>exact⟨0,Nat.zero_le _,(fun i j hi=>absurd hi (by omega)),rfl,hb0⟩
    case round=>
     clear hb0
     obtain⟨k,hk,hall,rfl,hbel⟩:=hrel
     by_cases hlt:k<n
     ·have hw1:IntKind.i64.wrap ((k:Int)+1)=(k:Int)+1:=by rw[IntKind.wrap_i64];omega
      go_wp2_with fail
      go_loopw [7] (fun j wr=>∃j':Nat,k<j'∧j'≤n∧Hid (∀j,k<j→j<j'→pairOK xs k j=true)∧j= .int .i64 (j':Int)∧Below w.heap.size w wr) (fun j _=>n-(intOf j).toNat)
      case atStart=>exact⟨k+1,by omega,by omega,(fun j h1 h2=>absurd h2 (by omega)),by go_num,hbel⟩
      case round=>
       clear hbel
       obtain⟨j,hkj,hj,hallj,rfl,hbel⟩:=hrel
       by_cases hltj:j<n
       ·have hA:=(HRD.out.below hbel)
        obtain⟨ad,rfl,hbd,-,-,-⟩:=hA.pt hlt
        obtain⟨m1,hm1⟩:∃m,m=(k+1)%n:=⟨_,rfl⟩
        obtain⟨m2,hm2⟩:∃m,m=(j+1)%n:=⟨_,rfl⟩
        have hl1:m1<n:=by rw[hm1];exact Nat.mod_lt _ (by omega)
        have hl2:m2<n:=by rw[hm2];exact Nat.mod_lt _ (by omega)
        have ht1:((k:Int)+1).tmod (n:Int)=(m1:Int):=by rw[mod_tmod,←hm1]
        have ht2:((j:Int)+1).tmod (n:Int)=(m2:Int):=by rw[mod_tmod,←hm2]
        have hw2:IntKind.i64.wrap ((j:Int)+1)=(j:Int)+1:=by rw[IntKind.wrap_i64];omega
        have hl1':(m1:Int)<(n:Int):=by omega
        have hl2':(m2:Int)<(n:Int):=by omega
        have hltj':(j:Int)<(n:Int):=by omega
        have hlt':(k:Int)<(n:Int):=by omega
        obtain⟨-,p1,p2⟩:=hA.ptA hlt
        obtain⟨-,q1,q2⟩:=hA.ptA hl1
        obtain⟨-,r1,r2⟩:=hA.ptA hltj
        obtain⟨-,t1,t2⟩:=hA.ptA hl2
        have kM:=fun W=>meetR8 (ptAt xs k).x (ptAt xs k).y (ptAt xs m1).x (ptAt xs m1).y (ptAt xs j).x (ptAt xs j).y (ptAt xs m2).x (ptAt xs m2).y W (ptAt_good HG.out k) (ptAt_good HG.out m1) (ptAt_good HG.out j) (ptAt_good HG.out m2)
        have hMM:meetR ⟨(ptAt xs k).x,(ptAt xs k).y⟩ ⟨(ptAt xs m1).x,(ptAt xs m1).y⟩ ⟨(ptAt xs j).x,(ptAt xs j).y⟩ ⟨(ptAt xs m2).x,(ptAt xs m2).y⟩=meetOf xs k j:=by unfold meetOf;rw[HL.out,←hm1,←hm2]
        obtain⟨M,hM⟩:∃M,M=meetOf xs k j:=⟨_,rfl⟩
        rw[hMM,←hM]at kM
        have hpk:pairOK xs k j=(decide (¬((ptAt xs k).x=(ptAt xs j).x∧(ptAt xs k).y=(ptAt xs j).y))&&decide (M=if nextB n k j=true then 1 else 0)):=by
         unfold pairOK
         rw[HL.out,←hM,pt_ext]
        have HP:Hid (∀b,pairOK xs k j=b→(b=true→∀j',k<j'→j'<j+1→pairOK xs k j'=true)∧(b=false→res=4)):=fun b hb=>by
         refine⟨fun h j' h1 h2=>?_,fun h=>?_⟩
         ·rcases Nat.lt_succ_iff_lt_or_eq.1 h2 with h3|h3
          ·exact hallj.out j' h1 h3
          ·subst h3;rw[hb,h]
         ·refine HR.out.1 fun h4=>?_
          have:=h4.2.2 k j hkj (by rw[HL.out];exact hltj)
          rw[hb,h]at this
          cases this
        rw[hpk]at HP
        generalize (ptAt xs k).x=px at *
        generalize (ptAt xs k).y=py at *
        generalize (ptAt xs m1).x=qx at *
        generalize (ptAt xs m1).y=qy at *
        generalize (ptAt xs j).x=rx at *
        generalize (ptAt xs j).y=ry at *
        generalize (ptAt xs m2).x=tx at *
        generalize (ptAt xs m2).y=ty at *
        obtain⟨nx,hnx⟩:∃b,b=nextB n k j:=⟨_,rfl⟩
        rw[←hnx]at HP
        have HM:=Lib.hid kM
        have hbds:ad.block<wr.heap.size:=Nat.lt_of_lt_of_le hbd hbel.size
        have HNX:=Lib.hid hnx
        have HBL:=Lib.hid (And.intro hbel hbds)
        clear hM hMM hpk kM hnx hm1 hm2 hA hbd hallj hbel hbds
        by_cases hxe:px=rx∧py=ry
        ·obtain⟨rfl,rfl⟩:=hxe
         have H4:Hid (res=4):=(HP.out false (by simp)).2 rfl
         clear HP
         go_wp2_with fail
         go_quiet (fail)
         go_wp2_with fail
         go_ret
         exact⟨by rw[H4.out];rfl,below_drewN HBL.out.1 _⟩
        ·have hne:((px==rx)=true∧(py==ry)=false)∨(px==rx)=false:=by
          by_cases h1:px=rx
          ·by_cases h2:py=ry
           ·exact absurd ⟨h1,h2⟩ hxe
           ·exact .inl ⟨by simpa using h1,by simpa using h2⟩
          ·exact .inr (by simpa using h1)
         have HXE:=Lib.hid hxe
         clear hxe
         go_wp2_with fail
         go_cut [47] (fun s47 wx=>s47= .bool false∧∃nq,wx=wr.drewN nq)
         case first=>
          rcases hne with ⟨h1,h2⟩|h1
          ·go_quiet (fail)
           go_wp2_with fail
           go_meet
           exact⟨rfl,_,rfl⟩
          ·go_quiet (fail)
           go_wp2_with fail
           go_meet
           exact⟨rfl,_,rfl⟩
         case rest=>
          obtain⟨rfl,nq,rfl⟩:=hcut
          clear hne
          obtain⟨W,hW⟩:∃W,W=wr.drewN nq:=⟨_,rfl⟩
          have hbW:Below w.heap.size w W:=by rw[hW];exact below_drewN HBL.out.1 _
          have hdW:ad.block<W.heap.size:=by rw[hW];exact HBL.out.2
          have hH0:W.drew.cell? (ad.add (k*2))=some (.int .i64 px)∧W.drew.cell? ⟨(ad.add (k*2)).block,(ad.add (k*2)).off+1,none⟩=some (.int .i64 py)∧W.drew.cell? (ad.add (m1*2))=some (.int .i64 qx)∧W.drew.cell? ⟨(ad.add (m1*2)).block,(ad.add (m1*2)).off+1,none⟩=some (.int .i64 qy)∧W.drew.cell? (ad.add (j*2))=some (.int .i64 rx)∧W.drew.cell? ⟨(ad.add (j*2)).block,(ad.add (j*2)).off+1,none⟩=some (.int .i64 ry)∧W.drew.cell? (ad.add (m2*2))=some (.int .i64 tx)∧W.drew.cell? ⟨(ad.add (m2*2)).block,(ad.add (m2*2)).off+1,none⟩=some (.int .i64 ty)∧Below W.heap.size W W.drew:=by
           rw[hW]
           exact⟨p1,p2,q1,q2,r1,r2,t1,t2,(Below.refl _ _).drew⟩
          have hP:(ad.add (k*2)).block<W.heap.size∧(ad.add (m1*2)).block<W.heap.size∧(ad.add (j*2)).block<W.heap.size∧(ad.add (m2*2)).block<W.heap.size:=by
           simp only[block_of_add]
           exact⟨hdW,hdW,hdW,hdW⟩
          rw[←hW]
          have HBW:=Lib.hid hbW
          have hn0:¬(n=0):=by omega
          have hn0':¬((n:Int)=0):=by omega
          clear hW hbW hdW HBL p1 p2 q1 q2 r1 r2 t1 t2
          go_wp2_with fail
          go_cut [8] (fun s8 wx=>s8= .int .i64 M∧Below W.heap.size W wx)
          case first=>
           go_region_held3 (fun V=>V.cell? (ad.add (k*2))=some (.int .i64 px)∧V.cell? ⟨(ad.add (k*2)).block,(ad.add (k*2)).off+1,none⟩=some (.int .i64 py)∧V.cell? (ad.add (m1*2))=some (.int .i64 qx)∧V.cell? ⟨(ad.add (m1*2)).block,(ad.add (m1*2)).off+1,none⟩=some (.int .i64 qy)∧V.cell? (ad.add (j*2))=some (.int .i64 rx)∧V.cell? ⟨(ad.add (j*2)).block,(ad.add (j*2)).off+1,none⟩=some (.int .i64 ry)∧V.cell? (ad.add (m2*2))=some (.int .i64 tx)∧V.cell? ⟨(ad.add (m2*2)).block,(ad.add (m2*2)).off+1,none⟩=some (.int .i64 ty)∧Below W.heap.size W V)
            (first|with_reducible exact hH0|with_reducible exact hold8 hP (by assumption) (by assumption))
            (first
            |(go_simp;go_at_call 39;(with_reducible refine(HM.out _).mono ?_);rintro e w' ⟨rfl,hb'⟩;try dsimp only))
           all_goals
            clear hH0
            obtain⟨-,-,-,-,-,-,-,-,hbV⟩:=(by assumption:Hold8 W _ (ad.add (k*2)) (ad.add (m1*2)) (ad.add (j*2)) (ad.add (m2*2)) px py qx qy rx ry tx ty)
            go_wp2_with fail
            go_meet
            exact⟨rfl,hbV⟩
          case rest=>
           obtain⟨rfl,hbV⟩:=hcut
           have hB5:=Lib.hid (below_on HBW.out (Nat.le_refl _) hbV)
           clear hbV hH0 hP HBW HM
           go_upto_region 16 with fail
           go_cut [9] (fun s9 wx=>s9= .bool nx∧wx=wc)
           case first=>
            have hw3:IntKind.i64.wrap ((n:Int)-1)=(n:Int)-1:=by rw[IntKind.wrap_i64];omega
            clear HP HXE
            by_cases c1:j=k+1
            ·have e1:((j:Int)==(k:Int)+1)=true:=beq_iff_eq.mpr (by omega)
             have ex:Hid (nx=true):=by show _=_;rw[HNX.out];unfold nextB;simp[c1]
             clear c1 HNX
             go_wp2_with fail
             go_meet
             exact⟨by rw[ex.out],rfl⟩
            ·have e1:((j:Int)==(k:Int)+1)=false:=beq_eq_false_iff_ne.mpr (by omega)
             by_cases c2:k=0
             ·have e2:((k:Int)==0)=true:=beq_iff_eq.mpr (by omega)
              by_cases c3:j=n-1
              ·have e3:((j:Int)==(n:Int)-1)=true:=beq_iff_eq.mpr (by omega)
               have ex:Hid (nx=true):=by show _=_;rw[HNX.out];unfold nextB;rw[decide_eq_false c1,decide_eq_true c2,decide_eq_true c3];rfl
               clear c1 c2 c3 HNX
               go_wp2_with fail
               go_meet
               exact⟨by rw[ex.out],rfl⟩
              ·have e3:((j:Int)==(n:Int)-1)=false:=beq_eq_false_iff_ne.mpr (by omega)
               have ex:Hid (nx=false):=by show _=_;rw[HNX.out];unfold nextB;rw[decide_eq_false c1,decide_eq_true c2,decide_eq_false c3];rfl
               clear c1 c2 c3 HNX
               go_wp2_with fail
               go_meet
               exact⟨by rw[ex.out],rfl⟩
             ·have e2:((k:Int)==0)=false:=beq_eq_false_iff_ne.mpr (by omega)
              have ex:Hid (nx=false):=by show _=_;rw[HNX.out];unfold nextB;rw[decide_eq_false c1,decide_eq_false c2];rfl
              clear c1 c2 HNX
              go_wp2_with fail
              go_meet
              exact⟨by rw[ex.out],rfl⟩
           case rest=>
            obtain⟨rfl,rfl⟩:=hcut
            clear HNX
            rcases nx with _|_
            ·by_cases m:M=0
             ·have f0:(M != 0)=false:=by rw[m];rfl
              have HN:=Lib.hid ((HP.out true (by simp[HXE.out,m])).1 rfl)
              clear m HP HXE
              go_wp2_with fail
              go_roundw
              case rel=>exact⟨j+1,by omega,by omega,HN.out,by go_num,hB5.out⟩
              case measure=>simp[intOf];omega
             ·have f0:(M != 0)=true:=by simpa using m
              have H4:Hid (res=4):=(HP.out false (by simp[m])).2 rfl
              clear m HP HXE
              go_wp2_with fail
              go_ret
              exact⟨by rw[H4.out];rfl,hB5.out⟩
            ·by_cases m:M=1
             ·have f0:(M != 1)=false:=by rw[m];rfl
              have HN:=Lib.hid ((HP.out true (by simp[HXE.out,m])).1 rfl)
              clear m HP HXE
              go_wp2_with fail
              go_roundw
              case rel=>exact⟨j+1,by omega,by omega,HN.out,by go_num,hB5.out⟩
              case measure=>simp[intOf];omega
             ·have f0:(M != 1)=true:=by simpa using m
              have H4:Hid (res=4):=(HP.out false (by simp[m])).2 rfl
              clear m HP HXE
              go_wp2_with fail
              go_ret
              exact⟨by rw[H4.out];rfl,hB5.out⟩
       ·have hjn:j=n:=by omega
        subst hjn
        have HN2:Hid (∀i j',i<k+1→i<j'→j'<j→pairOK xs i j'=true):=fun i j' h1 h2 h3=>by
         rcases Nat.lt_succ_iff_lt_or_eq.1 h1 with h4|h4
         ·exact hall.out i j' h4 h2 h3
         ·subst h4;exact hallj.out j' h2 h3
        clear hall hallj
        go_wp2_with fail
        go_roundw
        case rel=>exact⟨k+1,by omega,HN2,by go_num,hbel⟩
        case measure=>simp[intOf];omega
     ·have hkn:k=n:=by omega
      subst hkn
      have H0:Hid (res=0):=HR.out.2 ⟨by rw[HL.out];omega,by rw[←HZ.out];exact HZP.out,fun i j h1 h2=>hall.out i j (by rw[HL.out]at h2;omega) h1 (by rw[←HL.out];exact h2)⟩
      clear hall
      go_wp2_with fail
      go_ret
      exact⟨by rw[H0.out];rfl,hbel⟩
   ·have H4:Hid (res=4):=HR.out.1 fun h=>by have:=h.2.1;rw[←HZ.out]at this;omega
    have hs1:sgI z= -1∨sgI z=0:=by unfold sgI;split<;>(try split)<;>omega
    clear hzp
    go_wp2_with fail
    with_reducible refine(HK.out.2 _).mono ?_
    rintro e w2 ⟨rfl,hb2⟩
    have hb0:=below_on (hb1.alloc hb1.size (.cells #[.int .i64 (z/18446744073709551616),.int .u64 (z%18446744073709551616)] 37)) (Nat.le_refl _) hb2
    clear hb1 hb2
    rcases hs1 with hs1|hs1
    all_goals
     rw[hs1]
     clear hs1
     go_wp2_with fail
     go_ret
     exact⟨by rw[H4.out];rfl,hb0⟩
 ·have he:res=areaE xs:=by rw[hres,checkI_err hE]
  have hv:areaV xs=0:=if_neg hE
  rw[hv,i128_zero,←he]at ka
  have hne:(res != 0)=true:=by rw[he];simpa using hE
  clear hr hn hx hl hres hE he hv
  go_enter Tryz.func80,Tryz.ntmps80
  go_wp2_with fail
  refine ka.mono ?_
  rintro e w1 ⟨rfl,hb1⟩
  go_wp2_with fail
  go_ret
  exact⟨rfl,hb1.alloc hb1.size _⟩
def refW (v:Win) (i:Nat):List Pt:=spanF (v.lx/268435456) (v.hx/268435456) (v.ly/268435456) (v.hy/268435456) i
def refC (v:Win) (i j:Nat):List Pt:=colF (-4+(i:Int)) (v.ly/268435456) (v.hy/268435456) (decide (v.lx/268435456≤ -4+(i:Int)∧ -4+(i:Int)≤v.hx/268435456)) j
/-- What stands at a loop's head: so many columns, and so many rows of the next one. -/
def RefRel (v:Win) (w:World) (i j:Nat) (out:Value) (wr:World):Prop:=
 ∃(n c:Nat) (A:Option Addr),out= .slice A n c∧n≤9*i+j∧wr.ownsRow w.heap.size 102 2 (.slice A n c) n (ptsV (refW v i++refC v i j))∧Below w.heap.size w wr
theorem RefRel.next {v:Win} {w w2:World} {i:Nat} {out:Value} (h:RefRel v w i 9 out w2):RefRel v w (i+1) 0 out w2:=by
 obtain⟨n,c,A,rfl,hn,ho,hb⟩:=h
 refine⟨n,c,A,rfl,by omega,?_,hb⟩
 have e:refW v (i+1)++refC v (i+1) 0=refW v i++refC v i 9:=by
  unfold refW refC
  rw[spanF_succ]
  simp[colF]
 rw[e]
 exact ho
theorem RefRel.skip {v:Win} {w w2:World} {i j:Nat} {out:Value} (h:RefRel v w i j out w2)
 (hn:¬((v.lx/268435456≤ -4+(i:Int)∧ -4+(i:Int)≤v.hx/268435456)∧v.ly/268435456≤ -4+(j:Int)∧ -4+(j:Int)≤v.hy/268435456)):RefRel v w i (j+1) out w2:=by
 obtain⟨n,c,A,rfl,hn',ho,hb⟩:=h
 refine⟨n,c,A,rfl,by omega,?_,hb⟩
 have e:refC v i (j+1)=refC v i j:=by
  unfold refC
  rw[colF_succ,if_neg,List.append_nil]
  rw[←Bool.decide_and,decide_eq_true_iff]
  exact hn
 rw[e]
 exact ho
theorem RefRel.step {v:Win} {w w2:World} {i j n:Nat} {v2:Value} (hn':n≤9*i+j)
 (hn:(v.lx/268435456≤ -4+(i:Int)∧ -4+(i:Int)≤v.hx/268435456)∧v.ly/268435456≤ -4+(j:Int)∧ -4+(j:Int)≤v.hy/268435456)
 (ho:w2.ownsRow w.heap.size 102 2 v2 (n+1) (ptsV (refW v i++refC v i j)++[.int .i64 (-4+(i:Int)),.int .i64 (-4+(j:Int))])) (hb:Below w.heap.size w w2):
 RefRel v w i (j+1) v2 w2:=by
 obtain⟨A,c,rfl⟩:=own_form ho
 have e:ptsV (refW v i++refC v i j)++[.int .i64 (-4+(i:Int)),.int .i64 (-4+(j:Int))]=ptsV (refW v i++refC v i (j+1)):=by
  unfold refC
  rw[colF_succ,if_pos,←List.append_assoc,ptsV_append _ [_]]
  ·rfl
  ·rw[←Bool.decide_and,decide_eq_true_iff]
   exact hn
 rw[e]at ho
 exact⟨n+1,c,A,rfl,by omega,ho,hb⟩
/-- In which way one cell is asked. -/
theorem ref_cases (x0 x1 y0 y1 X Y:Int):(X<x0)∨(x0≤X∧x1<X)∨(x0≤X∧X≤x1∧Y<y0)∨(x0≤X∧X≤x1∧y0≤Y∧y1<Y)∨(x0≤X∧X≤x1∧y0≤Y∧Y≤y1):=by omega
def RefPost (v:Win) (w:World) (e:Ending) (w':World):Prop:=
 ∃A c,e= .returned (.slice A (refW v 9).length c)∧w'.ownsRow w.heap.size 102 2 (.slice A (refW v 9).length c) (refW v 9).length (ptsV (refW v 9))∧Below w.heap.size w w'
set_option maxRecDepth 100000 in
set_option maxHeartbeats 1600000 in
theorem refSpan_any (v:Win) (w:World) (hv:v.inI):
 Calls Tryz.prog 56 #[winV v] w (RefPost v w):=by
 obtain⟨i0,hi0,hz0,hz1,hz2⟩:=info_parts info_cell
 obtain⟨⟨⟨b1,b2⟩,b3,b4⟩,⟨b5,b6⟩,b7,b8⟩:=hv
 simp only[Win.low,Win.high]at b1 b2 b3 b4 b5 b6 b7 b8
 have hW:=HasWin.new w v 100
 obtain⟨x0,hx0⟩:∃x0,x0=v.lx/268435456:=⟨_,rfl⟩
 obtain⟨x1,hx1⟩:∃x1,x1=v.hx/268435456:=⟨_,rfl⟩
 obtain⟨y0,hy0⟩:∃y0,y0=v.ly/268435456:=⟨_,rfl⟩
 obtain⟨y1,hy1⟩:∃y1,y1=v.hy/268435456:=⟨_,rfl⟩
 have hx0':v.lx/268435456=x0:=hx0.symm
 have hx1':v.hx/268435456=x1:=hx1.symm
 have hy0':v.ly/268435456=y0:=hy0.symm
 have hy1':v.hy/268435456=y1:=hy1.symm
 have HX:=Lib.hid (And.intro hx0' (And.intro hx1' (And.intro hy0' hy1')))
 clear hx0 hx1 hy0 hy1
 unfold winV
 go_enter Tryz.func56,Tryz.ntmps56
 go_wp2_with fail
 obtain⟨w1,hw1⟩:∃w1:World,w1=w.alloc (.cells #[.int .i64 v.lx,.int .i64 v.ly,.int .i64 v.hx,.int .i64 v.hy] 100):=⟨_,rfl⟩
 have hB1:Below w.heap.size w w1:=by rw[hw1];exact(Below.refl _ _).alloc (Nat.le_refl _) _
 rw[←hw1]at hW
 rw[←hw1]
 have hsz1:w.heap.size<w1.heap.size:=by rw[hw1];simp
 clear hw1
 go_loopw [3,4] (fun out x wr=>∃i:Nat,i≤9∧x= .int .i64 (-4+(i:Int))∧RefRel v w1 i 0 out wr) (fun _ x _=>(5-intOf x).toNat)
 case atStart=>exact⟨0,Nat.zero_le _,by simp,0,0,none,rfl,by omega,World.ownsRow_nil _ _ _ _,Below.refl _ _⟩
 case round=>
  obtain⟨i,hi,rfl,n,c,A,rfl,hn,hown,hbel⟩:=hrel
  by_cases hlt:i<9
  ·have hle: -4+(i:Int)≤4:=by omega
   go_wp2
   obtain⟨wo,rfl⟩:∃wo:World,wo=wr:=⟨_,rfl⟩
   have hj0:RefRel v w1 i 0 (.slice A n c) wo:=⟨n,c,A,rfl,hn,hown,hbel⟩
   clear hown hbel
   go_loopw [3,5] (fun out y wr=>∃j:Nat,j≤9∧y= .int .i64 (-4+(j:Int))∧RefRel v w1 i j out wr) (fun _ y _=>(5-intOf y).toNat)
   case atStart=>exact⟨0,Nat.zero_le _,by simp,hj0⟩
   case round=>
    obtain⟨j,hj,rfl,n,c,A,rfl,hn,hown,hbel⟩:=hrel
    obtain⟨k1,k2,k3,k4,k5'⟩:=hW.on hbel
    by_cases hlt2:j<9
    ·have hle2: -4+(j:Int)≤4:=by omega
     have hyw:IntKind.i64.wrap (-4+(j:Int)+1)= -4+(j:Int)+1:=IntWalk.i64_in _ (by omega)
     obtain⟨e1,e2,e3,e4⟩:=HX.out
     rcases ref_cases x0 x1 y0 y1 (-4+(i:Int)) (-4+(j:Int))with g|⟨g,g2⟩|⟨g,g2,g3⟩|⟨g,g2,g3,g4⟩|⟨g,g2,g3,g4⟩
     case inr.inr.inr.inr=>
      have hin:(v.lx/268435456≤ -4+(i:Int)∧ -4+(i:Int)≤v.hx/268435456)∧v.ly/268435456≤ -4+(j:Int)∧ -4+(j:Int)≤v.hy/268435456:=by rw[e1,e2,e3,e4];omega
      have HIN:=Lib.hid hin
      clear hin
      go_wp2_with (first
       |(go_at_call 100;refine(cellR_any _ _ (by assumption) (by assumption)).mono ?_;rintro e w' ⟨rfl,rfl⟩)
       |(at_builtin;refine wpList_append_any _ rfl (.tmp 44) (.tmp 48) _ rfl w1.heap.size 102 i0 _ 2 16 Tryz.underlying97 hi0 hz0 hz1 hz2 rfl (by omega) (.slice A n c) n _ rfl (hown.alloc _) (wr.heap.size+1) (some ⟨wr.heap.size,0,none⟩) 1 1 _ rfl (new_cell wr (-4+(i:Int)) (-4+(j:Int))) (by simp[Value.oneCell']) (by simp only[maxLen];omega) (by omega) (by simp;have:=hbel.size;omega) ?_
         intro v3 w3 hown3 hg3 hat3))
      have hB3:Below w1.heap.size w1 w3:=(hbel.alloc hbel.size _).grown hg3 (by simp;have:=hbel.size;omega) (fun k hk=>(hown.lt k hk).1)
      have hrel2:=Lib.hid (RefRel.step hn HIN.out hown3 hB3)
      obtain⟨A3,c3,rfl⟩:=own_form hown3
      clear hown3 hg3 hat3 hB3 hown hbel e1 e2 e3 e4
      go_wp2
      go_roundw
      case rel=>exact⟨j+1,by omega,by simp[Int.add_assoc],hrel2.out⟩
      case measure=>simp[intOf];omega
     all_goals
      have hout:¬((v.lx/268435456≤ -4+(i:Int)∧ -4+(i:Int)≤v.hx/268435456)∧v.ly/268435456≤ -4+(j:Int)∧ -4+(j:Int)≤v.hy/268435456):=by rw[e1,e2,e3,e4];omega
      have hrel2:=Lib.hid (RefRel.skip ⟨n,c,A,rfl,hn,hown,hbel⟩ hout)
      clear hown hbel hout
      go_wp2_with (first
       |(go_at_call 100;refine(cellR_any _ _ (by assumption) (by assumption)).mono ?_;rintro e w' ⟨rfl,rfl⟩))
      go_roundw
      case rel=>exact⟨j+1,by omega,by simp[Int.add_assoc],hrel2.out⟩
      case measure=>simp[intOf];omega
    ·have hjn:j=9:=by omega
     subst hjn
     have hrel3:=Lib.hid (RefRel.next ⟨n,c,A,rfl,hn,hown,hbel⟩)
     have hxw:IntKind.i64.wrap (-4+(i:Int)+1)= -4+(i:Int)+1:=IntWalk.i64_in _ (by omega)
     clear hown hbel k1 k2 k3 k4 k5'
     go_wp2
     go_roundw
     case rel=>exact⟨i+1,by omega,by simp[Int.add_assoc],hrel3.out⟩
     case measure=>simp[intOf];omega
  ·have hin:i=9:=by omega
   subst hin
   have hown2:wr.ownsRow w1.heap.size 102 2 (.slice A n c) n (ptsV (refW v 9)):=by
    have e:refC v 9 0=[]:=by simp[refC,colF]
    rw[e,List.append_nil]at hown
    exact hown
   have hlen:n=(refW v 9).length:=by
    have:=hown2.1
    rw[ptsV_length]at this
    omega
   have hB2:=hB1.trans (hbel.mono hB1.size)
   have HO:=Lib.hid hown2
   have HL:=Lib.hid hlen
   clear hown hown2 hlen hn
   go_wp2
   go_ret
   unfold RefPost
   have:=HL.out
   subst this
   exact⟨A,c,rfl,own_mono HO.out hB1.size,hB2⟩
set_option maxRecDepth 100000 in
set_option maxHeartbeats 400000 in
theorem putNum_no (xs:List UInt8) (A:Option Addr) (n cap:Nat) (v size:Int) (w:World) (hr:Reads w w.heap.size 1 A n (u8s xs)) (hn:n≤140737488354000) (h:v<0∨size<1∨8<size):
 Calls Tryz.prog 97 #[.slice A n cap,.int .i64 v,.int .i64 size] w (Own8 xs w):=by
 by_cases h1:v<0
 ·go_enter Tryz.func97,Tryz.ntmps97
  go_wp2_with fail
  refine(clone8_any xs A n cap _ hr (by omega)).mono ?_
  rintro e w1 ⟨A1,c1,rfl,ho,hb⟩
  go_wp2
  go_ret
  exact⟨A1,c1,rfl,ho,hb⟩
 by_cases h2:size<1
 ·go_enter Tryz.func97,Tryz.ntmps97
  go_wp2_with fail
  refine(clone8_any xs A n cap _ hr (by omega)).mono ?_
  rintro e w1 ⟨A1,c1,rfl,ho,hb⟩
  go_wp2
  go_ret
  exact⟨A1,c1,rfl,ho,hb⟩
 ·have h3:8<size:=by omega
  go_enter Tryz.func97,Tryz.ntmps97
  go_wp2_with fail
  refine(clone8_any xs A n cap _ hr (by omega)).mono ?_
  rintro e w1 ⟨A1,c1,rfl,ho,hb⟩
  go_wp2
  go_ret
  exact⟨A1,c1,rfl,ho,hb⟩
theorem putNum_big (xs:List UInt8) (A:Option Addr) (n cap:Nat) (v s:Nat) (w:World) (hr:Reads w w.heap.size 1 A n (u8s xs)) (hn:n≤140737488354000) (hs1:1≤s) (hs2:s<8) (hv:256^s≤v):
 Calls Tryz.prog 97 #[.slice A n cap,.int .i64 v,.int .i64 s] w (Own8 xs w):=by
 obtain⟨q,hq,h0⟩:∃q:Nat,(v:Int)/2^(8*s)=(q:Int)∧0<q:=by
  refine⟨v/2^(8*s),by simp,?_⟩
  rw[pow_two56]
  exact Nat.div_pos hv (Nat.pow_pos (by omega))
 clear hv
 go_enter Tryz.func97,Tryz.ntmps97
 go_wp2_with fail
 refine(clone8_any xs A n cap _ hr (by omega)).mono ?_
 rintro e w1 ⟨A1,c1,rfl,ho,hb⟩
 go_wp2
 go_ret
 exact⟨A1,c1,rfl,ho,hb⟩
theorem u8_ofNat_int (q:Nat):(q:Int)%256=((UInt8.ofNat (q%256)).toNat:Int):=by
 rw[UInt8.toNat_ofNat'];omega
/-- What stands at the loop's head: the bytes above byte j are written. -/
def PutRel (xs:List UInt8) (v s:Nat) (w:World) (out k:Value) (wr:World):Prop:=
 ∃(j n2 c2:Nat) (A2:Option Addr),j≤s∧k= .int .i64 ((j:Int)-1)∧out= .slice A2 n2 c2∧n2≤xs.length+8∧wr.ownsRow w.heap.size 5 1 (.slice A2 n2 c2) n2 (u8s (xs++beB (v/256^j) (s-j)))∧Below w.heap.size w wr
theorem PutRel.start {xs:List UInt8} {v s:Nat} {w w1:World} {A:Option Addr} {n c:Nat} (ho:w1.ownsRow w.heap.size 5 1 (.slice A n c) n (u8s xs)) (hn:n=xs.length) (hb:Below w.heap.size w w1):
 PutRel xs v s w (.slice A n c) (.int .i64 ((s:Int)-1)) w1:=by
 refine⟨s,n,c,A,Nat.le_refl _,rfl,rfl,by omega,?_,hb⟩
 rw[Nat.sub_self]
 simpa[beB]using ho
theorem u8s_append (a b:List UInt8):u8s (a++b)=u8s a++u8s b:=by simp[u8s]
theorem PutRel.step {xs:List UInt8} {v s j n2:Nat} {b:UInt8} {w w2:World} {v2:Value} (hj:j+1≤s) (hs:s≤8) (hb:b=UInt8.ofNat (v/256^j%256))
 (ho:w2.ownsRow w.heap.size 5 1 v2 (n2+1) (u8s (xs++beB (v/256^(j+1)) (s-(j+1)))++[.int .u8 (b.toNat:Int)])) (hbel:Below w.heap.size w w2):
 PutRel xs v s w v2 (.int .i64 ((j:Int)-1)) w2:=by
 obtain⟨A,c,rfl⟩:=own_form ho
 have hs':s-j=(s-(j+1))+1:=by omega
 have e:u8s (xs++beB (v/256^(j+1)) (s-(j+1)))++[.int .u8 (b.toNat:Int)]=u8s (xs++beB (v/256^j) (s-j)):=by
  rw[hs',beB_step,←hb,←List.append_assoc,u8s_append _ [b]]
  rfl
 rw[e]at ho
 refine⟨j,n2+1,c,A,by omega,rfl,rfl,?_,ho,hbel⟩
 have h1:=ho.1
 rw[u8s_length,List.length_append,beB_length]at h1
 omega
theorem PutRel.end_ {xs:List UInt8} {v s n2 c2:Nat} {A2:Option Addr} {w wr:World} (ho:wr.ownsRow w.heap.size 5 1 (.slice A2 n2 c2) n2 (u8s (xs++beB (v/256^0) (s-0)))) (hb:Below w.heap.size w wr):
 Own8 (xs++beB v s) w (.returned (.slice A2 n2 c2)) wr:=by
 rw[Nat.pow_zero,Nat.div_one,Nat.sub_zero]at ho
 exact Own8.mk ho hb
theorem new_byte (w:World) (b:UInt8):Reads (w.alloc (.cells #[.int .u8 (b.toNat:Int)] 5)) (w.heap.size+1) 1 (some ⟨w.heap.size,0,none⟩) 1 [.int .u8 (b.toNat:Int)]:=by
 have:=Reads.made w #[.int .u8 (b.toNat:Int)] 5 (0,0) 1 1 _ rfl rfl
 simpa using this
set_option maxRecDepth 100000 in
set_option maxHeartbeats 800000 in
theorem putNum_yes (xs:List UInt8) (A:Option Addr) (n cap:Nat) (v s:Nat) (w:World) (hr:Reads w w.heap.size 1 A n (u8s xs)) (hn:n≤140737488354000) (hs1:1≤s) (hs2:s≤8) (_hv:v≤9223372036854775807) (hvs:v<256^s):
 Calls Tryz.prog 97 #[.slice A n cap,.int .i64 v,.int .i64 s] w (Own8 (xs++beB v s) w):=by
 obtain⟨i0,hi0,hz0,hz1,hz2⟩:=info_parts info_u8
 have hl:=hr.len8
 have hq:(v:Int)/2^(8*s)=0:=by
  have:v/2^(8*s)=0:=by rw[pow_two56];exact Nat.div_eq_of_lt hvs
  have h2:(v:Int)/2^(8*s)=((v/2^(8*s):Nat):Int):=by simp
  rw[h2,this];rfl
 have hv0:decide ((v:Int)<0)=false:=by simp
 have hs01:decide ((s:Int)<1)=false:=by simp;omega
 have hs08:decide (8<(s:Int))=false:=by simp;omega
 clear hvs
 have hc:s<8∨8≤s:=by omega
 rcases hc with hc|hc
 all_goals
  go_enter Tryz.func97,Tryz.ntmps97
  go_wp2_with fail
  refine(clone8_any xs A n cap _ hr (by omega)).mono ?_
  rintro e w1 ⟨A1,c1,rfl,ho,hb⟩
  have HL:=Lib.hid hl
  go_wp2
  clear hq hv0 hs01 hs08 hl
  go_loopw [7,8] (PutRel xs v s w) (fun _ k _=>(intOf k+1).toNat)
  case atStart=>exact PutRel.start (by rw[HL.out]at ho;exact ho) HL.out.symm hb
  case round=>
   obtain⟨j,n2,c2,A2,hj,rfl,rfl,hn2,hown,hbel⟩:=hrel
   have hn3:n2≤n+8:=by have:=HL.out;omega
   rcases j with _|j
   ·go_wp2
    go_ret
    exact PutRel.end_ hown hbel
   ·obtain⟨q,hq⟩:∃q:Nat,q=v/256^j:=⟨_,rfl⟩
    have hq1:(v:Int)/2^(8*j)=(q:Int):=by
     rw[hq,←pow_two56];simp
    obtain⟨b,hb2⟩:∃b:UInt8,b=UInt8.ofNat (q%256):=⟨_,rfl⟩
    have hq2:(q:Int)%256=(b.toNat:Int):=by rw[hb2];exact u8_ofNat_int q
    have HB:Hid (b=UInt8.ofNat (v/256^j%256)):=by show b=_;rw[hb2,hq]
    clear hq hb2
    go_wp2_with (at_builtin;refine wpList_append_any _ rfl (.tmp 39) (.tmp 45) _ rfl w.heap.size 5 i0 _ 1 1 Tryz.underlying50 hi0 hz0 hz1 hz2 rfl (by omega) (.slice A2 n2 c2) n2 _ rfl (hown.alloc _) (wr.heap.size+1) (some ⟨wr.heap.size,0,none⟩) 1 1 _ rfl (new_byte wr b) (by simp[Value.oneCell']) (by simp only[maxLen];omega) (by omega) (by simp;have:=hbel.size;omega) ?_
                 intro v2 w2 hown2 hg2 hat2)
    have hbel2:Below w.heap.size w w2:=(hbel.alloc hbel.size _).grown hg2 (by simp;have:=hbel.size;omega) (fun k hk=>(hown.lt k hk).1)
    have hrel2:=Lib.hid (PutRel.step (by omega) (by omega) HB.out hown2 hbel2)
    clear hown2 hg2 hat2 hbel2 hown hbel
    go_wp2
    exact⟨hrel2.out,by simp[intOf]⟩
theorem putNum_any (xs:List UInt8) (A:Option Addr) (n cap:Nat) (v s:Int) (w:World) (hr:Reads w w.heap.size 1 A n (u8s xs)) (hn:n≤140737488354000) (hv:v≤9223372036854775807):
 Calls Tryz.prog 97 #[.slice A n cap,.int .i64 v,.int .i64 s] w (Own8 (putN xs v s) w):=by
 unfold putN
 by_cases h:v<0∨s<1∨8<s
 ·rw[if_pos (by omega)]
  exact putNum_no xs A n cap v s w hr hn h
 ·obtain⟨v,rfl⟩:=Int.eq_ofNat_of_zero_le (a:=v) (by omega)
  obtain⟨s,rfl⟩:=Int.eq_ofNat_of_zero_le (a:=s) (by omega)
  by_cases h2:256^s≤v
  ·rw[if_pos (by right;right;right;exact h2)]
   have hs:s<8:=by
    rcases Nat.lt_or_ge s 8 with h8|h8
    ·exact h8
    ·have:(256:Nat)^8≤256^s:=Nat.pow_le_pow_right (by omega) h8
     omega
   exact putNum_big xs A n cap v s w hr hn (by omega) hs h2
  ·rw[if_neg (by intro hh;rcases hh with hh|hh|hh|hh<;>first|omega|exact h2 hh)]
   exact putNum_yes xs A n cap v s w hr hn (by omega) (by omega) (by omega) (by omega)
end Go.Proofs.YtpkeacnacjnlcaaGreat
namespace Go.Proofs.YtpkeacnacjnlcaaGreat
open Go
section
variable {P:Program} {ops:Array Oper} {Q:Exit→Act→World→Prop} {md:Region.Mode} {S:World→Prop}
/-- How many have not come up yet. -/
def unlN (n:Nat) (l:Array Bool):Nat:=((List.range n).filter fun i=>!l.getD i true).length
theorem filter_lt {α:Type} {p q:α→Bool}:∀ {l:List α} {x:α},x∈l→q x=true→p x=false→(∀y,p y=true→q y=true)→(l.filter p).length<(l.filter q).length
 |[],_,h,_,_,_=>absurd h (by simp)
 |a::l,x,h,hq,hp,hi=>by
  have hle:∀l:List α,(l.filter p).length≤(l.filter q).length:=fun l=>by
   induction l with
   |nil=>exact Nat.le_refl _
   |cons a l ih=>
    rw[List.filter_cons,List.filter_cons]
    by_cases h1:p a=true
    ·rw[if_pos h1,if_pos (hi a h1)];simp;exact ih
    ·rw[if_neg h1]
     by_cases h2:q a=true
     ·rw[if_pos h2];simp;omega
     ·rw[if_neg h2];exact ih
  rw[List.filter_cons,List.filter_cons]
  rcases List.mem_cons.1 h with rfl|h
  ·rw[if_neg (by rw[hp];simp),if_pos hq]
   have:=hle l
   simp;omega
  ·have:=filter_lt h hq hp hi
   by_cases h1:p a=true
   ·rw[if_pos h1,if_pos (hi a h1)];simp;omega
   ·rw[if_neg h1]
    by_cases h2:q a=true
    ·rw[if_pos h2];simp;omega
    ·rw[if_neg h2];exact this
theorem unlN_set {n i:Nat} {l:Array Bool} (hi:i<n) (h:l.getD i true=false):unlN n (l.setIfInBounds i true)<unlN n l:=by
 have hs:i<l.size:=by
  rcases Nat.lt_or_ge i l.size with h1|h1
  ·exact h1
  ·rw[Array.getD_eq_getD_getElem?,Array.getElem?_eq_none h1]at h
   cases h
 refine filter_lt (x:=i) (List.mem_range.2 hi) (by rw[h];rfl) (by rw[Array.getD_eq_getD_getElem?,Array.getElem?_setIfInBounds_self_of_lt hs];rfl) fun y hy=>?_
 by_cases e:i=y
 ·subst e;rw[h];rfl
 ·rw[Array.getD_eq_getD_getElem?,Array.getElem?_setIfInBounds_ne e]at hy
  rw[Array.getD_eq_getD_getElem?]
  exact hy
theorem ready_lt {i:Nat} {l:Array Bool} (h:i∈Region.ready md ops l):i<ops.size∧l.getD i true=false:=by
 obtain⟨h1,o,ho,-⟩:=mem_ready.1 h
 refine⟨?_,h1⟩
 rcases Nat.lt_or_ge i ops.size with h2|h2
 ·exact h2
 ·rw[Array.getElem?_eq_none h2]at ho
  cases ho
/-- An invariant on what has come up, the state and the world; each operation that may come up keeps it. -/
theorem wpAnyH_inv (Inv:Array Bool→Act→World→Prop) (hS:∀l a w,Inv l a w→S w) (hstep:∀l a w,Inv l a w→∀i,i∈Region.ready md ops l→wpOp P ops Q i (Inv (l.setIfInBounds i true)) a w)
 (hdone:∀l a w,Inv l a w→Region.ready md ops l=[]→Q .normal a w):∀(fuel:Nat) (l:Array Bool) (a:Act) (w:World),Inv l a w→unlN ops.size l≤fuel→wpAnyH P md ops Q S fuel l a w
 |0,l,a,w,h,hf=>by
  have hr:Region.ready md ops l=[]:=by
   rcases hr:Region.ready md ops l with _|⟨i,r⟩
   ·rfl
   ·have hi:=ready_lt (md:=md) (ops:=ops) (l:=l) (i:=i) (by rw[hr];exact List.mem_cons_self ..)
    have:=unlN_set hi.1 hi.2
    omega
  exact⟨hr,hdone l a w h hr⟩
 |fuel+1,l,a,w,h,hf=>⟨fun hr=>hdone l a w h hr,fun i hi=>wpOp_mono (fun a' w' h'=>⟨hS _ _ _ h',wpAnyH_inv Inv hS hstep hdone fuel _ a' w' h' (by have:=ready_lt hi;have:=unlN_set this.1 this.2;omega)⟩) (hstep l a w h i hi)⟩
/-- The operation, and that those which it waits for have come up. -/
theorem inv_step {i:Nat} {o:Oper} {l:Array Bool} {I:Array Bool→Act→World→Prop} {a:Act} {w:World} (ho:ops[i]?=some o) (hi:i∈Region.ready md ops l)
 (h:l.getD i true=false→(∀e∈o.after,Region.binds md e=true→l.getD e.on false=true)→∀K':Act→World→Prop,Shut (∀a w,I (l.setIfInBounds i true) a w→K' a w)→if Region.wanted o (yielded ops a.tmps)=true then Oper.wp P o a w K' Q else K' (a.put o.dst undef) w):
 wpOp P ops Q i (I (l.setIfInBounds i true)) a w:=by
 obtain⟨h1,o',ho',h2⟩:=mem_ready.1 hi
 rw[ho]at ho'
 cases ho'
 exact wpOp_step ho fun K' hK=>h h1 h2 K' hK
/-- A drawn region outside a round, where the way on hangs on the state (marks of ranges over functions). -/
theorem wp_region_only {id:Nat} {a:Act} {w:World} (hm:P.follows .mixedOrders=true) (hS:S w.drew)
 (h:S w.drew→wpAnyH P .any ops (OnlyN Q) S ops.size (Array.replicate ops.size false) a w.drew):(Code.region id ops true).wp P Q a w:=
 (wpIn_wide (n:=0)).1 (wpIn_mono ((wpIn_wide (n:=0)).2 (wp_region_held_drew hm hS h)) OnlyN.imp)
end
end Go.Proofs.YtpkeacnacjnlcaaGreat
