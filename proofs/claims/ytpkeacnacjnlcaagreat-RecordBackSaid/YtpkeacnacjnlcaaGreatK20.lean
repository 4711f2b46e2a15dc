/- merestoneref02.Around: the walk; grid.Cells: the walk; ref05.SameParcel and ref05.Same: the walks. -/
import Derived.Test.YtpkeacnacjnlcaaGreatK07
import Derived.Test.YtpkeacnacjnlcaaGreatK08
import Derived.Test.YtpkeacnacjnlcaaGreatK13
import Derived.Test.YtpkeacnacjnlcaaGreatK14
import Derived.Test.YtpkeacnacjnlcaaGreatK15
namespace Go.Proofs.YtpkeacnacjnlcaaGreat
open Go.RowKit
def aroV (xs:List Pt) (k:Nat):Win:=if k=0 then⟨0,0,0,0⟩else aroW xs k
theorem aroW_one (xs:List Pt):aroW xs 1=⟨(ptAt xs 0).x,(ptAt xs 0).y,(ptAt xs 0).x,(ptAt xs 0).y⟩:=by
 show(⟨mn (ptAt xs 0).x (ptAt xs 0).x,mn (ptAt xs 0).y (ptAt xs 0).y,mx (ptAt xs 0).x (ptAt xs 0).x,mx (ptAt xs 0).y (ptAt xs 0).y⟩:Win)=_
 unfold mn mx
 simp
theorem aroV_succ (xs:List Pt) (k:Nat):aroV xs (k+1)=⟨if k=0∨(ptAt xs k).x<(aroV xs k).lx then(ptAt xs k).x else(aroV xs k).lx,if k=0∨(ptAt xs k).y<(aroV xs k).ly then(ptAt xs k).y else(aroV xs k).ly,
 if k=0∨(aroV xs k).hx<(ptAt xs k).x then(ptAt xs k).x else(aroV xs k).hx,if k=0∨(aroV xs k).hy<(ptAt xs k).y then(ptAt xs k).y else(aroV xs k).hy⟩:=by
 unfold aroV
 rw[if_neg (by omega)]
 by_cases h:k=0
 ·subst h
  rw[aroW_one]
  simp
 ·rw[if_neg h]
  simp only[h,false_or]
  rfl
set_option maxRecDepth 100000 in
set_option maxHeartbeats 3200000 in
theorem aroundR_any (xs:List Pt) (A:Option Addr) (n cap:Nat) (w:World) (hr:Reads w w.heap.size 2 A n (ptsV xs)) (hn:n≤128):
 Calls Tryz.prog 57 #[.slice A n cap] w fun e w'=>e= .returned (winV (aroV xs n))∧Below w.heap.size w w':=by
 have hB0:=((Below.refl w.heap.size w).alloc (Nat.le_refl _) (.cells #[.int .i64 0,.int .i64 0,.int .i64 0,.int .i64 0] 100)).alloc (by simp) (.cells #[.int .i64 0,.int .i64 0,.int .i64 0,.int .i64 0] 100)
 have hR0:WinK ((w.alloc (.cells #[.int .i64 0,.int .i64 0,.int .i64 0,.int .i64 0] 100)).alloc (.cells #[.int .i64 0,.int .i64 0,.int .i64 0,.int .i64 0] 100)) w.heap.size ⟨0,0,0,0⟩:=Blk.alloc (Blk.new w _ _) _
 have hV0:WinK ((w.alloc (.cells #[.int .i64 0,.int .i64 0,.int .i64 0,.int .i64 0] 100)).alloc (.cells #[.int .i64 0,.int .i64 0,.int .i64 0,.int .i64 0] 100)) (w.heap.size+1) (aroV xs 0):=by
  have:=Blk.new (w.alloc (.cells #[.int .i64 0,.int .i64 0,.int .i64 0,.int .i64 0] 100)) 100 #[.int .i64 0,.int .i64 0,.int .i64 0,.int .i64 0]
  rw[World.size_alloc]at this
  exact this
 have HRD:=Lib.hid hr
 clear hr
 go_enter Tryz.func57,Tryz.ntmps57
 go_wp2_with fail
 go_loopw [4] (fun i wr=>∃k:Nat,k≤n∧i= .int .i64 (k:Int)∧Below w.heap.size w wr∧WinK wr w.heap.size ⟨0,0,0,0⟩∧WinK wr (w.heap.size+1) (aroV xs k)) (fun i _=>n-(intOf i).toNat)
 case atStart=>exact⟨0,Nat.zero_le _,rfl,hB0,hR0,hV0⟩
 case round=>
  clear hB0 hR0 hV0
  obtain⟨k,hk,rfl,hbel,hR,hV⟩:=hrel
  by_cases hlt:k<n
  ·have hlt':(k:Int)<(n:Int):=by omega
   have hw1:IntKind.i64.wrap ((k:Int)+1)=(k:Int)+1:=by rw[IntKind.wrap_i64];omega
   obtain⟨ad,rfl,hbd,-,-,-⟩:=(HRD.out.below hbel).pt hlt
   have hst:=aroV_succ xs k
   have HP:=Lib.hid (fun (V:World) (hV:Below w.heap.size w V)=>(HRD.out.below hV).ptA hlt)
   generalize aroV xs k=v0 at *
   generalize (ptAt xs k).x=px at *
   generalize (ptAt xs k).y=py at *
   obtain⟨X0,hX0⟩:∃X,X=(if k=0∨px<v0.lx then px else v0.lx):=⟨_,rfl⟩
   obtain⟨X1,hX1⟩:∃X,X=(if k=0∨py<v0.ly then py else v0.ly):=⟨_,rfl⟩
   obtain⟨X2,hX2⟩:∃X,X=(if k=0∨v0.hx<px then px else v0.hx):=⟨_,rfl⟩
   obtain⟨X3,hX3⟩:∃X,X=(if k=0∨v0.hy<py then py else v0.hy):=⟨_,rfl⟩
   rw[←hX0,←hX1,←hX2,←hX3]at hst
   have HX:=Lib.hid (And.intro hst (And.intro hX0 (And.intro hX1 (And.intro hX2 hX3))))
   have HB:=Lib.hid (And.intro hbel (And.intro hR hV))
   clear hst hX0 hX1 hX2 hX3 hbel hR hV
   have hp:=HP.out wr HB.out.1
   obtain⟨⟨v1,v2,v3,v4⟩,⟨f1,f2,f3,f4⟩,hgl⟩:=(show WinK wr (w.heap.size+1) ⟨v0.lx,v0.ly,v0.hx,v0.hy⟩ from HB.out.2.2).facts
   obtain⟨-,p1,p2⟩:=hp
   go_wp2_with fail
   go_cut [24] (fun s wx=>s= .bool (decide (k=0∨px<v0.lx))∧∃q,wx=wr.drewN q)
   case first=>
    by_cases h0:k=0
    ·have e0:((k:Int)==0)=true:=beq_iff_eq.mpr (by omega)
     have ex:Hid (decide (k=0∨px<v0.lx)=true):=decide_eq_true (.inl h0)
     clear h0
     go_quiet (fail)
     go_wp2_with fail
     go_meet
     exact⟨by rw[ex.out],_,rfl⟩
    ·have e0:((k:Int)==0)=false:=beq_eq_false_iff_ne.mpr (by omega)
     rcases hd:decide (px<v0.lx)with _|_
     ·have ex:Hid (decide (k=0∨px<v0.lx)=false):=decide_eq_false (by rw[decide_eq_false_iff_not]at hd;omega)
      clear h0
      go_quiet (fail)
      go_wp2_with fail
      go_meet
      exact⟨by rw[ex.out],_,rfl⟩
     ·have ex:Hid (decide (k=0∨px<v0.lx)=true):=decide_eq_true (by rw[decide_eq_true_iff]at hd;exact .inr hd)
      clear h0
      go_quiet (fail)
      go_wp2_with fail
      go_meet
      exact⟨by rw[ex.out],_,rfl⟩
   case rest=>
    obtain⟨rfl,q,rfl⟩:=hcut
    clear v1 v2 v3 v4 f1 f2 f3 f4 hgl p1 p2
    have HB:=Lib.hid (And.intro (below_drewN HB.out.1 q) (And.intro (Blk.drewN HB.out.2.1 q) (show WinK (wr.drewN q) (w.heap.size+1) ⟨v0.lx,v0.ly,v0.hx,v0.hy⟩ from Blk.drewN HB.out.2.2 q)))
    generalize wr.drewN q=V0 at *
    go_upto_if 24 with fail
    go_cut [] (fun wx=>Below w.heap.size w wx∧WinK wx w.heap.size ⟨0,0,0,0⟩∧WinK wx (w.heap.size+1) ⟨X0,v0.ly,v0.hx,v0.hy⟩)
    case first=>
     by_cases hc:k=0∨px<v0.lx
     ·have hd:decide (k=0∨px<v0.lx)=true:=decide_eq_true hc
      have ex:Hid (X0=px):=by show _=_;rw[HX.out.2.1,if_pos hc]
      rw[hd]
      obtain⟨⟨v1,v2,v3,v4⟩,⟨f1,f2,f3,f4⟩,hgl⟩:=(show WinK V0 (w.heap.size+1) ⟨v0.lx,v0.ly,v0.hx,v0.hy⟩ from HB.out.2.2).facts
      obtain⟨-,p1,p2⟩:=HP.out V0 HB.out.1
      clear hd hc
      go_wp2_with fail
      go_meet
      rw[ex.out]
      exact⟨HB.out.1.setCell (p:=⟨w.heap.size+1,0,none⟩) (by simp) _,Blk.far HB.out.2.1 (by simp only;omega) _,Blk.set_ HB.out.2.2 0 _⟩
     ·have hd:decide (k=0∨px<v0.lx)=false:=decide_eq_false hc
      have ex:Hid (X0=v0.lx):=by show _=_;rw[HX.out.2.1,if_neg hc]
      rw[hd]
      clear hd hc
      go_wp2_with fail
      go_meet
      rw[ex.out]
      exact HB.out
    case rest=>
     have HB:=Lib.hid hcut
     clear hcut
     have hp:=HP.out wc HB.out.1
     obtain⟨⟨v1,v2,v3,v4⟩,⟨f1,f2,f3,f4⟩,hgl⟩:=(show WinK wc (w.heap.size+1) ⟨X0,v0.ly,v0.hx,v0.hy⟩ from HB.out.2.2).facts
     obtain⟨-,p1,p2⟩:=hp
     go_wp2_with fail
     go_cut [44] (fun s wx=>s= .bool (decide (k=0∨py<v0.ly))∧∃q,wx=wc.drewN q)
     case first=>
      by_cases h0:k=0
      ·have e0:((k:Int)==0)=true:=beq_iff_eq.mpr (by omega)
       have ex:Hid (decide (k=0∨py<v0.ly)=true):=decide_eq_true (.inl h0)
       clear h0
       go_quiet (fail)
       go_wp2_with fail
       go_meet
       exact⟨by rw[ex.out],_,rfl⟩
      ·have e0:((k:Int)==0)=false:=beq_eq_false_iff_ne.mpr (by omega)
       rcases hd:decide (py<v0.ly)with _|_
       ·have ex:Hid (decide (k=0∨py<v0.ly)=false):=decide_eq_false (by rw[decide_eq_false_iff_not]at hd;omega)
        clear h0
        go_quiet (fail)
        go_wp2_with fail
        go_meet
        exact⟨by rw[ex.out],_,rfl⟩
       ·have ex:Hid (decide (k=0∨py<v0.ly)=true):=decide_eq_true (by rw[decide_eq_true_iff]at hd;exact .inr hd)
        clear h0
        go_quiet (fail)
        go_wp2_with fail
        go_meet
        exact⟨by rw[ex.out],_,rfl⟩
     case rest=>
      obtain⟨rfl,q,rfl⟩:=hcut
      clear v1 v2 v3 v4 f1 f2 f3 f4 hgl p1 p2
      have HB:=Lib.hid (And.intro (below_drewN HB.out.1 q) (And.intro (Blk.drewN HB.out.2.1 q) (show WinK (wc.drewN q) (w.heap.size+1) ⟨X0,v0.ly,v0.hx,v0.hy⟩ from Blk.drewN HB.out.2.2 q)))
      generalize wc.drewN q=V1 at *
      go_upto_if 44 with fail
      go_cut [] (fun wx=>Below w.heap.size w wx∧WinK wx w.heap.size ⟨0,0,0,0⟩∧WinK wx (w.heap.size+1) ⟨X0,X1,v0.hx,v0.hy⟩)
      case first=>
       by_cases hc:k=0∨py<v0.ly
       ·have hd:decide (k=0∨py<v0.ly)=true:=decide_eq_true hc
        have ex:Hid (X1=py):=by show _=_;rw[HX.out.2.2.1,if_pos hc]
        rw[hd]
        obtain⟨⟨v1,v2,v3,v4⟩,⟨f1,f2,f3,f4⟩,hgl⟩:=(show WinK V1 (w.heap.size+1) ⟨X0,v0.ly,v0.hx,v0.hy⟩ from HB.out.2.2).facts
        obtain⟨-,p1,p2⟩:=HP.out V1 HB.out.1
        clear hd hc
        go_wp2_with fail
        go_meet
        rw[ex.out]
        exact⟨HB.out.1.setCell (p:=⟨w.heap.size+1,1,none⟩) (by simp) _,Blk.far HB.out.2.1 (by simp only;omega) _,Blk.set_ HB.out.2.2 1 _⟩
       ·have hd:decide (k=0∨py<v0.ly)=false:=decide_eq_false hc
        have ex:Hid (X1=v0.ly):=by show _=_;rw[HX.out.2.2.1,if_neg hc]
        rw[hd]
        clear hd hc
        go_wp2_with fail
        go_meet
        rw[ex.out]
        exact HB.out
      case rest=>
       have HB:=Lib.hid hcut
       clear hcut
       have hp:=HP.out wc HB.out.1
       obtain⟨⟨v1,v2,v3,v4⟩,⟨f1,f2,f3,f4⟩,hgl⟩:=(show WinK wc (w.heap.size+1) ⟨X0,X1,v0.hx,v0.hy⟩ from HB.out.2.2).facts
       obtain⟨-,p1,p2⟩:=hp
       go_wp2_with fail
       go_cut [64] (fun s wx=>s= .bool (decide (k=0∨v0.hx<px))∧∃q,wx=wc.drewN q)
       case first=>
        by_cases h0:k=0
        ·have e0:((k:Int)==0)=true:=beq_iff_eq.mpr (by omega)
         have ex:Hid (decide (k=0∨v0.hx<px)=true):=decide_eq_true (.inl h0)
         clear h0
         go_quiet (fail)
         go_wp2_with fail
         go_meet
         exact⟨by rw[ex.out],_,rfl⟩
        ·have e0:((k:Int)==0)=false:=beq_eq_false_iff_ne.mpr (by omega)
         rcases hd:decide (v0.hx<px)with _|_
         ·have ex:Hid (decide (k=0∨v0.hx<px)=false):=decide_eq_false (by rw[decide_eq_false_iff_not]at hd;omega)
          clear h0
          go_quiet (fail)
          go_wp2_with fail
          go_meet
          exact⟨by rw[ex.out],_,rfl⟩
         ·have ex:Hid (decide (k=0∨v0.hx<px)=true):=decide_eq_true (by rw[decide_eq_true_iff]at hd;exact .inr hd)
          clear h0
          go_quiet (fail)
          go_wp2_with fail
          go_meet
          exact⟨by rw[ex.out],_,rfl⟩
       case rest=>
        obtain⟨rfl,q,rfl⟩:=hcut
        clear v1 v2 v3 v4 f1 f2 f3 f4 hgl p1 p2
        have HB:=Lib.hid (And.intro (below_drewN HB.out.1 q) (And.intro (Blk.drewN HB.out.2.1 q) (show WinK (wc.drewN q) (w.heap.size+1) ⟨X0,X1,v0.hx,v0.hy⟩ from Blk.drewN HB.out.2.2 q)))
        generalize wc.drewN q=V2 at *
        go_upto_if 64 with fail
        go_cut [] (fun wx=>Below w.heap.size w wx∧WinK wx w.heap.size ⟨0,0,0,0⟩∧WinK wx (w.heap.size+1) ⟨X0,X1,X2,v0.hy⟩)
        case first=>
         by_cases hc:k=0∨v0.hx<px
         ·have hd:decide (k=0∨v0.hx<px)=true:=decide_eq_true hc
          have ex:Hid (X2=px):=by show _=_;rw[HX.out.2.2.2.1,if_pos hc]
          rw[hd]
          obtain⟨⟨v1,v2,v3,v4⟩,⟨f1,f2,f3,f4⟩,hgl⟩:=(show WinK V2 (w.heap.size+1) ⟨X0,X1,v0.hx,v0.hy⟩ from HB.out.2.2).facts
          obtain⟨-,p1,p2⟩:=HP.out V2 HB.out.1
          clear hd hc
          go_wp2_with fail
          go_meet
          rw[ex.out]
          exact⟨HB.out.1.setCell (p:=⟨w.heap.size+1,2,none⟩) (by simp) _,Blk.far HB.out.2.1 (by simp only;omega) _,Blk.set_ HB.out.2.2 2 _⟩
         ·have hd:decide (k=0∨v0.hx<px)=false:=decide_eq_false hc
          have ex:Hid (X2=v0.hx):=by show _=_;rw[HX.out.2.2.2.1,if_neg hc]
          rw[hd]
          clear hd hc
          go_wp2_with fail
          go_meet
          rw[ex.out]
          exact HB.out
        case rest=>
         have HB:=Lib.hid hcut
         clear hcut
         have hp:=HP.out wc HB.out.1
         obtain⟨⟨v1,v2,v3,v4⟩,⟨f1,f2,f3,f4⟩,hgl⟩:=(show WinK wc (w.heap.size+1) ⟨X0,X1,X2,v0.hy⟩ from HB.out.2.2).facts
         obtain⟨-,p1,p2⟩:=hp
         go_wp2_with fail
         go_cut [84] (fun s wx=>s= .bool (decide (k=0∨v0.hy<py))∧∃q,wx=wc.drewN q)
         case first=>
          by_cases h0:k=0
          ·have e0:((k:Int)==0)=true:=beq_iff_eq.mpr (by omega)
           have ex:Hid (decide (k=0∨v0.hy<py)=true):=decide_eq_true (.inl h0)
           clear h0
           go_quiet (fail)
           go_wp2_with fail
           go_meet
           exact⟨by rw[ex.out],_,rfl⟩
          ·have e0:((k:Int)==0)=false:=beq_eq_false_iff_ne.mpr (by omega)
           rcases hd:decide (v0.hy<py)with _|_
           ·have ex:Hid (decide (k=0∨v0.hy<py)=false):=decide_eq_false (by rw[decide_eq_false_iff_not]at hd;omega)
            clear h0
            go_quiet (fail)
            go_wp2_with fail
            go_meet
            exact⟨by rw[ex.out],_,rfl⟩
           ·have ex:Hid (decide (k=0∨v0.hy<py)=true):=decide_eq_true (by rw[decide_eq_true_iff]at hd;exact .inr hd)
            clear h0
            go_quiet (fail)
            go_wp2_with fail
            go_meet
            exact⟨by rw[ex.out],_,rfl⟩
         case rest=>
          obtain⟨rfl,q,rfl⟩:=hcut
          clear v1 v2 v3 v4 f1 f2 f3 f4 hgl p1 p2
          have HB:=Lib.hid (And.intro (below_drewN HB.out.1 q) (And.intro (Blk.drewN HB.out.2.1 q) (show WinK (wc.drewN q) (w.heap.size+1) ⟨X0,X1,X2,v0.hy⟩ from Blk.drewN HB.out.2.2 q)))
          generalize wc.drewN q=V3 at *
          go_upto_if 84 with fail
          by_cases hc:k=0∨v0.hy<py
          ·have hd:decide (k=0∨v0.hy<py)=true:=decide_eq_true hc
           have ex:Hid (X3=py):=by show _=_;rw[HX.out.2.2.2.2,if_pos hc]
           rw[hd]
           obtain⟨⟨v1,v2,v3,v4⟩,⟨f1,f2,f3,f4⟩,hgl⟩:=(show WinK V3 (w.heap.size+1) ⟨X0,X1,X2,v0.hy⟩ from HB.out.2.2).facts
           obtain⟨-,p1,p2⟩:=HP.out V3 HB.out.1
           clear hd hc
           go_wp2_with fail
           go_roundw
           case rel=>exact⟨k+1,by omega,by go_num,HB.out.1.setCell (p:=⟨w.heap.size+1,3,none⟩) (by simp) _,Blk.far HB.out.2.1 (by simp only;omega) _,by rw[HX.out.1,ex.out];exact Blk.set_ HB.out.2.2 3 _⟩
           case measure=>simp[intOf];omega
          ·have hd:decide (k=0∨v0.hy<py)=false:=decide_eq_false hc
           have ex:Hid (X3=v0.hy):=by show _=_;rw[HX.out.2.2.2.2,if_neg hc]
           rw[hd]
           clear hd hc
           go_wp2_with fail
           go_roundw
           case rel=>exact⟨k+1,by omega,by go_num,HB.out.1,HB.out.2.1,by rw[HX.out.1,ex.out];exact HB.out.2.2⟩
           case measure=>simp[intOf];omega
  ·have hkn:k=n:=by omega
   subst hkn
   obtain⟨v,hvv⟩:∃v,v=aroV xs k:=⟨_,rfl⟩
   rw[←hvv]at hV
   have HVV:=Lib.hid hvv
   clear hvv
   obtain⟨⟨v1,v2,v3,v4⟩,⟨f1,f2,f3,f4⟩,hgl⟩:=hV.facts
   obtain⟨⟨u1,u2,u3,u4⟩,⟨e1,e2,e3,e4⟩,hrl⟩:=hR.facts
   obtain⟨⟨q1,q2,q3,q4⟩,-,-⟩:=(hR.put v).facts
   have HB:=Lib.hid (And.intro hbel hR)
   clear hbel hR hV
   go_wp2_with fail
   exact bodyPost_ret (v:=winV v) (by unfold winV;simp[results,Tryz.results57,go_sem,q1,q2,q3,q4]) rfl ⟨by rw[HVV.out],below_put4 HB.out.1 (Nat.le_refl _) _ _ _ _⟩
end Go.Proofs.YtpkeacnacjnlcaaGreat
namespace Go.Proofs.YtpkeacnacjnlcaaGreat
open Go.RowKit
open Classical in
noncomputable def pcEq (x y:Parc):Bool:=decide (x=y)
theorem pcEq_iff {x y:Parc}:pcEq x y=true↔x=y:=by unfold pcEq;simp
theorem pcEq_self (x:Parc):pcEq x x=true:=pcEq_iff.2 rfl
theorem pcEq_parts (x y:Parc):pcEq x y=(decide (x.id=y.id)&&(decide (x.owner=y.owner)&&decide (x.ring=y.ring))):=by
 obtain⟨i,r,s⟩:=x
 obtain⟨i',r',s'⟩:=y
 rw[Bool.eq_iff_iff,pcEq_iff]
 simp
 exact fun _=>And.comm
abbrev pcVal (x:Parc) (A:Option Addr) (n c:Nat):Value:= .agg #[.int .i64 x.id,.slice A n c,.string x.owner]
set_option maxRecDepth 100000 in
set_option maxHeartbeats 800000 in
theorem samePc_any (x y:Parc) (A B:Option Addr) (n m ca cb:Nat) (w:World) (hr:Reads w w.heap.size 2 A n (ptsV x.ring)) (hs:Reads w w.heap.size 2 B m (ptsV y.ring)) (hn:n≤9223372036854775807) (hm:m≤9223372036854775807):
 Calls Tryz.prog 51 #[pcVal x A n ca,pcVal y B m cb] w fun e w'=>e= .returned (.bool (pcEq x y))∧Below w.heap.size w w':=by
 rw[pcEq_parts]
 obtain⟨wa,hwa⟩:∃wa:World,wa=(w.alloc (.cells #[.int .i64 x.id,.slice A n ca,.string x.owner] 27)).alloc (.cells #[.int .i64 y.id,.slice B m cb,.string y.owner] 27):=⟨_,rfl⟩
 have hB0:Below w.heap.size w wa:=by rw[hwa];exact((Below.refl _ _).alloc (Nat.le_refl _) _).alloc (by simp) _
 have hX:PcK wa w.heap.size x A n ca:=by rw[hwa];exact Blk.alloc (PcK.new w x A n ca) _
 have hY:PcK wa (w.heap.size+1) y B m cb:=by
  rw[hwa]
  have:=PcK.new (w.alloc (.cells #[.int .i64 x.id,.slice A n ca,.string x.owner] 27)) y B m cb
  rw[World.size_alloc]at this
  exact this
 obtain⟨q1,q2,q3,-⟩:=hX.facts
 obtain⟨r1,r2,r3,-⟩:=hY.facts
 have kS:=Lib.hid (sameR_any x.ring y.ring A B n m ca cb wa (hr.on hB0) (hs.on hB0) hn hm)
 have HB:=Lib.hid hB0
 clear hX hY hr hs hB0
 obtain⟨i1,xs,s1⟩:=x
 obtain⟨i2,ys,s2⟩:=y
 dsimp only[pcVal]at *
 generalize decide (xs=ys)=b3 at *
 go_enter Tryz.func51,Tryz.ntmps51
 go_upto_region 1 with fail
 rw[←hwa]
 clear hwa
 by_cases h1:i1=i2
 ·subst h1
  by_cases h2:s1=s2
  ·subst h2
   go_wp2_with fail
   refine kS.out.mono ?_
   rintro e w1 ⟨rfl,hb⟩
   have HB1:=Lib.hid (below_on HB.out (Nat.le_refl _) hb)
   clear hb HB kS
   go_wp2_with fail
   go_ret
   exact⟨by simp,HB1.out⟩
  ·clear kS
   have h2':¬s1.toList=s2.toList:=fun h=>h2 (by rw[ByteArray.toList_eq,ByteArray.toList_eq]at h;exact Go.WideShapes.bytes_inj h)
   go_wp2_with fail
   go_ret
   exact⟨by simp,HB.out⟩
 ·have h1':(i1==i2)=false:=by simpa using h1
  clear kS
  go_wp2_with fail
  go_ret
  exact⟨by simp[h1],HB.out⟩
open Classical in
noncomputable def plEq (p q:Plan):Bool:=decide (p=q)
theorem plEq_iff {p q:Plan}:plEq p q=true↔p=q:=by unfold plEq;simp
theorem plEq_self (p:Plan):plEq p p=true:=plEq_iff.2 rfl
theorem plEq_no {p q:Plan} {k:Nat} (h:pcEq (pcAt p.parcels k) (pcAt q.parcels k)=false):plEq p q=false:=by
 rw[Bool.eq_false_iff]
 intro he
 rw[plEq_iff.1 he,pcEq_self]at h
 cases h
theorem plEq_end {p q:Plan} {k:Nat} (h1:k≤p.parcels.length) (h2:k≤q.parcels.length) (h3:k=p.parcels.length∨k=q.parcels.length) (h:p.parcels.take k=q.parcels.take k):plEq p q=(decide (p.parcels.length=q.parcels.length)&&decide (p.outer=q.outer)):=by
 obtain⟨o,l⟩:=p
 obtain⟨o',l'⟩:=q
 simp only at *
 rw[Bool.eq_iff_iff,plEq_iff]
 simp only[Bool.and_eq_true,decide_eq_true_eq,Plan.mk.injEq]
 constructor
 ·rintro⟨rfl,rfl⟩;exact⟨rfl,rfl⟩
 ·rintro⟨e,rfl⟩
  rw[List.take_of_length_le (by omega),List.take_of_length_le (by omega)]at h
  exact⟨rfl,h⟩
theorem take_next {l l':List Parc} {k:Nat} (h1:k<l.length) (h2:k<l'.length) (h:l.take k=l'.take k) (he:pcEq (pcAt l k) (pcAt l' k)=true):l.take (k+1)=l'.take (k+1):=by
 rw[List.take_succ_eq_append_getElem h1,List.take_succ_eq_append_getElem h2,h,←pcAt_lt h1,←pcAt_lt h2,pcEq_iff.1 he]
abbrev HoldSP (W V:World) (b1 b2:Nat) (a1 a2:Addr) (v1 v2 v3 v4 v5 v6 v7 v8:Value):Prop:=V.cell? ⟨b1,1,none⟩=some v1∧V.cell? ⟨b2,1,none⟩=some v2∧V.cell? a1=some v3∧V.cell? ⟨a1.block,a1.off+1,none⟩=some v4∧V.cell? ⟨a1.block,a1.off+2,none⟩=some v5∧V.cell? a2=some v6∧V.cell? ⟨a2.block,a2.off+1,none⟩=some v7∧V.cell? ⟨a2.block,a2.off+2,none⟩=some v8∧Below W.heap.size W V
theorem heldSP {W V V':World} {b1 b2:Nat} {a1 a2:Addr} {v1 v2 v3 v4 v5 v6 v7 v8:Value} (hh:b1<W.heap.size∧b2<W.heap.size∧a1.block<W.heap.size∧a2.block<W.heap.size) (hs:V.cell? ⟨b1,1,none⟩=some v1∧V.cell? ⟨b2,1,none⟩=some v2∧V.cell? a1=some v3∧V.cell? ⟨a1.block,a1.off+1,none⟩=some v4∧V.cell? ⟨a1.block,a1.off+2,none⟩=some v5∧V.cell? a2=some v6∧V.cell? ⟨a2.block,a2.off+1,none⟩=some v7∧V.cell? ⟨a2.block,a2.off+2,none⟩=some v8∧Below W.heap.size W V) (hb:Below V.heap.size V V'):
 V'.cell? ⟨b1,1,none⟩=some v1∧V'.cell? ⟨b2,1,none⟩=some v2∧V'.cell? a1=some v3∧V'.cell? ⟨a1.block,a1.off+1,none⟩=some v4∧V'.cell? ⟨a1.block,a1.off+2,none⟩=some v5∧V'.cell? a2=some v6∧V'.cell? ⟨a2.block,a2.off+1,none⟩=some v7∧V'.cell? ⟨a2.block,a2.off+2,none⟩=some v8∧Below W.heap.size W V':=by
 obtain⟨h1,h2,h3,h4⟩:=hh
 obtain⟨c1,c2,c3,c4,c5,c6,c7,c8,c9⟩:=hs
 have:=c9.size
 have k:∀ {a:Addr} {v:Value},a.block<W.heap.size→V.cell? a=some v→V'.cell? a=some v:=fun {a v} ha hv=>(hb.cell (p:=a) (by omega)).trans hv
 exact⟨k h1 c1,k h2 c2,k h3 c3,k h3 c4,k h3 c5,k h4 c6,k h4 c7,k h4 c8,below_on c9 (Nat.le_refl _) hb⟩
set_option maxRecDepth 100000 in
set_option maxHeartbeats 1600000 in
theorem samePl_any (p q:Plan) (A A' B B':Option Addr) (n c n' c' m d m' d':Nat) (w:World) (hp:PlanAt w w.heap.size A n c A' n' c' p) (hq:PlanAt w w.heap.size B m d B' m' d' q):
 Calls Tryz.prog 27 #[planV A n c A' n' c',planV B m d B' m' d'] w fun e w'=>e= .returned (.bool (plEq p q))∧Below w.heap.size w w':=by
 obtain⟨hl1,hl2,hl3,hl4⟩:=hp.lens
 obtain⟨hm1,hm2,hm3,hm4⟩:=hq.lens
 obtain⟨wa,hwa⟩:∃wa:World,wa=(w.alloc (.cells #[.slice A n c,.slice A' n' c'] 30)).alloc (.cells #[.slice B m d,.slice B' m' d'] 30):=⟨_,rfl⟩
 have hB0:Below w.heap.size w wa:=by rw[hwa];exact((Below.refl _ _).alloc (Nat.le_refl _) _).alloc (by simp) _
 have hX:PlK wa w.heap.size A n c A' n' c':=by rw[hwa];exact Blk.alloc (PlK.new w A n c A' n' c') _
 have hY:PlK wa (w.heap.size+1) B m d B' m' d':=by
  rw[hwa]
  have:=PlK.new (w.alloc (.cells #[.slice A n c,.slice A' n' c'] 30)) B m d B' m' d'
  rw[World.size_alloc]at this
  exact this
 have HP:=Lib.hid (And.intro hp hq)
 have HL:=Lib.hid (And.intro hl2 hm2)
 have HL1:=Lib.hid (And.intro (And.intro hl1 hm1) (And.intro hl3 hm3))
 have H0:=Lib.hid (And.intro hB0 (And.intro hX hY))
 clear hX hY hp hq hB0 hl1 hl2 hl3 hm1 hm2 hm3
 go_enter Tryz.func27,Tryz.ntmps27
 go_upto_region 1 with fail
 rw[←hwa]
 clear hwa
 go_wp2_with fail
 go_loopw [5] (fun i wr=>∃k:Nat,k≤n'∧k≤m'∧Hid (p.parcels.take k=q.parcels.take k)∧i= .int .i64 (k:Int)∧Hid (Below w.heap.size w wr∧PlK wr w.heap.size A n c A' n' c'∧PlK wr (w.heap.size+1) B m d B' m' d')) (fun i _=>n'-(intOf i).toNat)
 case atStart=>exact⟨0,Nat.zero_le _,Nat.zero_le _,rfl,rfl,H0⟩
 case round=>
  clear H0
  obtain⟨k,hk,hkm,hg,rfl,HW⟩:=hrel
  obtain⟨q1,q2,q3⟩:=HW.out.2.1.facts
  obtain⟨r1,r2,r3⟩:=HW.out.2.2.facts
  by_cases hlt:k<n'
  ·have hlt':(k:Int)<(n':Int):=by omega
   by_cases hlt2:k<m'
   ·have hlt2':(k:Int)<(m':Int):=by omega
    have hw1:IntKind.i64.wrap ((k:Int)+1)=(k:Int)+1:=by rw[IntKind.wrap_i64];omega
    obtain⟨ad,rfl⟩:=HP.out.1.parcs.some_ (by omega)
    obtain⟨bd,rfl⟩:=HP.out.2.parcs.some_ (by omega)
    obtain⟨hb1,p1,⟨Ak,nk,ck,p2,hrk,hk1,hk2⟩,p3⟩:=(HP.out.1.parcs.below HW.out.1).at_ hlt
    obtain⟨hb2,p4,⟨Bk,mk,dk,p5,hsk,hk3,hk4⟩,p6⟩:=(HP.out.2.parcs.below HW.out.1).at_ hlt2
    have hsz:=HW.out.1.size
    have hh:w.heap.size<wr.heap.size∧w.heap.size+1<wr.heap.size∧(ad.add (k*3)).block<wr.heap.size∧(bd.add (k*3)).block<wr.heap.size:=by
     simp only[block_of_add]
     exact⟨q3,r3,by omega,by omega⟩
    have kF:=samePc_any (pcAt p.parcels k) (pcAt q.parcels k) Ak Bk nk mk ck dk wr.drew ((hrk.more hsz).drewN _) ((hsk.more hsz).drewN _) (by omega) (by omega)
    have HNX:=Lib.hid (take_next (l:=p.parcels) (l':=q.parcels) (k:=k) (by have:=HL.out;omega) (by have:=HL.out;omega) hg.out)
    have HNO:=Lib.hid (plEq_no (p:=p) (q:=q) (k:=k))
    generalize pcAt p.parcels k=x at *
    generalize pcAt q.parcels k=y at *
    have hP0:HoldSP wr wr.drew w.heap.size (w.heap.size+1) (ad.add (k*3)) (bd.add (k*3)) (.slice (some ad) n' c') (.slice (some bd) m' d') (.int .i64 x.id) (.slice Ak nk ck) (.string x.owner) (.int .i64 y.id) (.slice Bk mk dk) (.string y.owner):=⟨q2,r2,p1,p2,p3,p4,p5,p6,(Below.refl _ _).drew⟩
    have HPQ:=Lib.hid (And.intro q2 r2)
    clear hrk hsk p1 p2 p3 p4 p5 p6 hsz hb1 hb2 hk1 hk2 hk3 hk4 q1 r1 q3 r3
    generalize pcEq x y=b at *
    rcases b with _|_
    all_goals
     go_upto_region 4 with fail
     clear q2 r2
     go_region_held3 (fun V=>V.cell? ⟨w.heap.size,1,none⟩=some (.slice (some ad) n' c')∧V.cell? ⟨w.heap.size+1,1,none⟩=some (.slice (some bd) m' d')∧V.cell? (ad.add (k*3))=some (.int .i64 x.id)∧V.cell? ⟨(ad.add (k*3)).block,(ad.add (k*3)).off+1,none⟩=some (.slice Ak nk ck)∧V.cell? ⟨(ad.add (k*3)).block,(ad.add (k*3)).off+2,none⟩=some (.string x.owner)∧V.cell? (bd.add (k*3))=some (.int .i64 y.id)∧V.cell? ⟨(bd.add (k*3)).block,(bd.add (k*3)).off+1,none⟩=some (.slice Bk mk dk)∧V.cell? ⟨(bd.add (k*3)).block,(bd.add (k*3)).off+2,none⟩=some (.string y.owner)∧Below wr.heap.size wr V)
      (first|with_reducible exact hP0|with_reducible exact heldSP hh (by assumption) (by assumption))
      (first
        |(go_simp;go_at_call 51;(with_reducible refine kF.mono ?_);rintro e w' ⟨rfl,hb'⟩;try dsimp only))
     clear hP0
     obtain⟨-,-,-,-,-,-,-,-,hbV⟩:=(by assumption:HoldSP wr _ w.heap.size (w.heap.size+1) (ad.add (k*3)) (bd.add (k*3)) (.slice (some ad) n' c') (.slice (some bd) m' d') (.int .i64 x.id) (.slice Ak nk ck) (.string x.owner) (.int .i64 y.id) (.slice Bk mk dk) (.string y.owner))
     have HV:=Lib.hid (And.intro (below_on HW.out.1 (Nat.le_refl _) hbV) (And.intro (HW.out.2.1.on hbV) (HW.out.2.2.on hbV)))
     clear hbV HW
     go_wp2_with fail
    ·go_ret
     exact⟨by rw[HNO.out (by simp)];rfl,HV.out.1⟩
    ·go_roundw
     case rel=>exact⟨k+1,by omega,by omega,HNX.out (by simp),by go_num,HV⟩
     case measure=>simp[intOf];omega
   ·have hlt2':¬(k:Int)<(m':Int):=by omega
    have hne:¬n'=m':=by omega
    have hne':((n':Int)==(m':Int))=false:=by simp;omega
    have HE:=Lib.hid (plEq_end (p:=p) (q:=q) (k:=k) (by have:=HL.out;omega) (by have:=HL.out;omega) (.inr (by have:=HL.out;omega)) hg.out)
    go_wp2_with fail
    go_ret
    exact⟨by rw[HE.out,HL.out.1,HL.out.2];simp[hne],HW.out.1⟩
  ·have hkn:k=n':=by omega
   subst hkn
   have HE:=Lib.hid (plEq_end (p:=p) (q:=q) (k:=k) (by have:=HL.out;omega) (by have:=HL.out;omega) (.inl (by have:=HL.out;omega)) hg.out)
   by_cases hkm':k=m'
   ·subst hkm'
    have kS:=Lib.hid (sameR_any p.outer q.outer A B n m c d wr ((HP.out.1.outer.below HW.out.1).more HW.out.1.size) ((HP.out.2.outer.below HW.out.1).more HW.out.1.size) (by have:=HL1.out.2;omega) (by have:=HL1.out.2;omega))
    go_wp2_with fail
    refine kS.out.mono ?_
    rintro e w1 ⟨rfl,hb⟩
    have HV:=Lib.hid (below_on HW.out.1 (Nat.le_refl _) hb)
    clear hb HW kS q1 q2 r1 r2
    go_wp2_with fail
    go_ret
    exact⟨by rw[HE.out,HL.out.1,HL.out.2];simp,HV.out⟩
   ·have hkm2:((k:Int)==(m':Int))=false:=by simp;omega
    go_wp2_with fail
    go_ret
    exact⟨by rw[HE.out,HL.out.1,HL.out.2];simp[hkm'],HW.out.1⟩
end Go.Proofs.YtpkeacnacjnlcaaGreat
