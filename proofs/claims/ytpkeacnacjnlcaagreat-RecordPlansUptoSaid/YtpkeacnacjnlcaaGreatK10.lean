/- ref02.Least: the walk; Maps that a call makes: a block, as the list of its keys and values in the order in which they came; slices.SortFunc of edges, by plan.clean's own order: laid off the shelf, and the order's walk. -/
import Derived.Carry
import Derived.Maps.RangeRun
import Derived.RangeFuncCalls
import Derived.RangeFuncLeaves
import Derived.RangeFuncNested
import Derived.WideKeyRuns
import Derived.Test.YtpkeacnacjnlcaaGreatK05
import Derived.Test.YtpkeacnacjnlcaaGreatK09
namespace Go.Proofs.YtpkeacnacjnlcaaGreat
open Go.RowKit
theorem less_ord (a b:Pt):lessB a b=decide (ordI a b<0):=by
 unfold lessB ordI orI
 rw[decide_eq_decide]
 rcases cmpI_cases a.x b.x with ⟨h,e⟩|⟨h,e⟩|⟨h,e⟩<;>rcases cmpI_cases a.y b.y with ⟨h',e'⟩|⟨h',e'⟩|⟨h',e'⟩<;>rw[e,e']<;>simp<;>omega
theorem leastN_step {xs:List Pt} {m:Nat}:leastN xs (m+1)=if lessB (ptAt xs m) (ptAt xs (leastN xs m))=true then m else leastN xs m:=by
 rw[less_ord,leastN]
 simp only[decide_eq_true_eq]
theorem leastN_le (xs:List Pt) (m:Nat):leastN xs m≤m:=by
 rcases Nat.eq_zero_or_pos m with h|h
 ·subst h;exact Nat.le_refl _
 ·exact Nat.le_of_lt (leastN_lt xs h)
abbrev Hold22 (W V:World) (a1 a2:Addr) (p q:Pt):Prop:=V.cell? a1=some (.int .i64 p.x)∧V.cell? ⟨a1.block,a1.off+1,none⟩=some (.int .i64 p.y)∧V.cell? a2=some (.int .i64 q.x)∧V.cell? ⟨a2.block,a2.off+1,none⟩=some (.int .i64 q.y)∧Below W.heap.size W V
theorem held22 {W V V':World} {a1 a2:Addr} {p q:Pt} (hh:a1.block<W.heap.size∧a2.block<W.heap.size) (hs:V.cell? a1=some (.int .i64 p.x)∧V.cell? ⟨a1.block,a1.off+1,none⟩=some (.int .i64 p.y)∧V.cell? a2=some (.int .i64 q.x)∧V.cell? ⟨a2.block,a2.off+1,none⟩=some (.int .i64 q.y)∧Below W.heap.size W V) (hb:Below V.heap.size V V'):
 V'.cell? a1=some (.int .i64 p.x)∧V'.cell? ⟨a1.block,a1.off+1,none⟩=some (.int .i64 p.y)∧V'.cell? a2=some (.int .i64 q.x)∧V'.cell? ⟨a2.block,a2.off+1,none⟩=some (.int .i64 q.y)∧Below W.heap.size W V':=by
 obtain⟨h1,h2⟩:=hh
 obtain⟨c1,c2,c3,c4,c5⟩:=hs
 have:=c5.size
 exact⟨(hb.cell (p:=a1) (by omega)).trans c1,(hb.cell (p:=⟨a1.block,a1.off+1,none⟩) (by simp only;omega)).trans c2,(hb.cell (p:=a2) (by omega)).trans c3,(hb.cell (p:=⟨a2.block,a2.off+1,none⟩) (by simp only;omega)).trans c4,below_on c5 (Nat.le_refl _) hb⟩
set_option maxRecDepth 100000 in
set_option maxHeartbeats 1600000 in
theorem leastR_any (xs:List Pt) (A:Option Addr) (n cap:Nat) (w:World) (hr:Reads w w.heap.size 2 A n (ptsV xs)) (hn:n≤128):
 Calls Tryz.prog 81 #[.slice A n cap] w fun e w'=>∃A' c,e= .returned (.slice A' n c)∧w'.ownsRow w.heap.size 23 2 (.slice A' n c) n (ptsV (rot (leastN xs n) xs))∧Below w.heap.size w w':=by
 obtain⟨i0,hi0,hz0,hz1,hz2⟩:=info_parts info_pt
 have hl:xs.length=n:=hr.lenPt
 have HR:=Lib.hid (And.intro hr hl)
 clear hr hl
 go_enter Tryz.func81,Tryz.ntmps81
 go_wp2_with fail
 go_loopw [3,4] (fun kv i wr=>∃m:Nat,m≤n∧i= .int .i64 (m:Int)∧kv= .int .i64 (leastN xs m:Int)∧Below w.heap.size w wr) (fun _ i _=>n-(intOf i).toNat)
 case atStart=>exact⟨0,Nat.zero_le _,rfl,rfl,Below.refl _ _⟩
 case round=>
  obtain⟨m,hm,rfl,rfl,hbel⟩:=hrel
  by_cases hlt:m<n
  ·have hlt':(m:Int)<(n:Int):=by omega
   have hkn:leastN xs m<n:=by have:=leastN_le xs m;omega
   have hw1:IntKind.i64.wrap ((m:Int)+1)=(m:Int)+1:=by rw[IntKind.wrap_i64];omega
   have hst:=leastN_step (xs:=xs) (m:=m)
   generalize leastN xs m=k at *
   have hkn':(k:Int)<(n:Int):=by omega
   obtain⟨ad,rfl,-,-,-,-⟩:=HR.out.1.pt hlt
   obtain⟨hbd,p1,p2⟩:=((HR.out.1.below hbel).more hbel.size).ptA hlt
   obtain⟨-,q1,q2⟩:=((HR.out.1.below hbel).more hbel.size).ptA hkn
   have kL:=fun V=>lessR6 (ptAt xs m).x (ptAt xs m).y (ptAt xs k).x (ptAt xs k).y V
   have hP0:Hold22 wr wr.drew (ad.add (m*2)) (ad.add (k*2)) (ptAt xs m) (ptAt xs k):=⟨p1,p2,q1,q2,(Below.refl _ _).drew⟩
   have hltM:(ad.add (m*2)).block<wr.heap.size∧(ad.add (k*2)).block<wr.heap.size:=by simp only[block_of_add];exact⟨hbd,hbd⟩
   have HB:=Lib.hid hbel
   generalize ptAt xs m=P at *
   generalize ptAt xs k=Q at *
   have kL':∀V,Calls Tryz.prog 120 #[.agg #[.int .i64 P.x,.int .i64 P.y],.agg #[.int .i64 Q.x,.int .i64 Q.y]] V fun e w'=>e= .returned (.bool (lessB P Q))∧Below V.heap.size V w':=kL
   clear kL hbel p1 p2 q1 q2 hbd
   generalize lessB P Q=lb at *
   rcases lb with _|_
   all_goals
    have HST:=Lib.hid hst
    clear hst
    go_wp2_with fail
    go_region_held3 (fun V=>V.cell? (ad.add (m*2))=some (.int .i64 P.x)∧V.cell? ⟨(ad.add (m*2)).block,(ad.add (m*2)).off+1,none⟩=some (.int .i64 P.y)∧V.cell? (ad.add (k*2))=some (.int .i64 Q.x)∧V.cell? ⟨(ad.add (k*2)).block,(ad.add (k*2)).off+1,none⟩=some (.int .i64 Q.y)∧Below wr.heap.size wr V)
     (first|with_reducible exact hP0|with_reducible exact held22 hltM (by assumption) (by assumption))
     (first
       |(go_simp;go_at_call 120;(with_reducible refine(kL' _).mono ?_);rintro e w' ⟨rfl,hb'⟩;try dsimp only))
    clear hP0
    obtain⟨-,-,-,-,hbV⟩:=(by assumption:Hold22 wr _ (ad.add (m*2)) (ad.add (k*2)) P Q)
    have HV:=Lib.hid (below_on HB.out (Nat.le_refl _) hbV)
    clear hbV
    go_wp2_with fail
    go_roundw
    case rel=>exact⟨m+1,by omega,by go_num,by rw[HST.out];rfl,HV.out⟩
    case measure=>simp[intOf];omega
  ·have hmn:m=n:=by omega
   subst hmn
   have hkm:0<m→leastN xs m<m:=fun h=>leastN_lt xs h
   generalize hke:leastN xs m=k at *
   have HKE:=Lib.hid hke
   clear hke
   have HB:=Lib.hid hbel
   have hown0:wr.ownsRow w.heap.size 23 2 (.slice none 0 0) 0 (ptsV ((rot k xs).take 0)):=by simp[ptsV,World.ownsRow_nil]
   clear hbel
   go_wp2_with fail
   obtain⟨wo,hwo⟩:∃wo:World,wo=wr:=⟨_,rfl⟩
   rw[←hwo]at HB hown0
   rw[←hwo]
   clear hwo
   go_loopw [5,6] (fun s i wx=>∃j:Nat,j≤m∧i= .int .i64 (j:Int)∧(∃A' c,s= .slice A' j c∧wx.ownsRow w.heap.size 23 2 (.slice A' j c) j (ptsV ((rot k xs).take j)))∧Below w.heap.size w wx) (fun _ i _=>m-(intOf i).toNat)
   case atStart=>exact⟨0,Nat.zero_le _,rfl,⟨none,0,rfl,hown0⟩,HB.out⟩
   case round=>
    clear hown0
    obtain⟨j,hj,rfl,⟨A',c,rfl,hown⟩,hbel⟩:=hrel
    by_cases hlt2:j<m
    ·have hlt':(j:Int)<(m:Int):=by omega
     have hkm':=hkm (by omega)
     have hw1:IntKind.i64.wrap ((j:Int)+1)=(j:Int)+1:=by rw[IntKind.wrap_i64];omega
     have hw2:IntKind.i64.wrap ((k:Int)+(j:Int))=(k:Int)+(j:Int):=IntWalk.i64_in _ (by omega)
     have hm0:¬m=0:=by omega
     have hm1:¬(m:Int)=0:=by omega
     have htm:((k:Int)+(j:Int)).tmod (m:Int)=(((k+j)%m:Nat):Int):=by
      rw[show (k:Int)+(j:Int)=((k+j:Nat):Int) by omega]
      rfl
     have hrl:(k+j)%m<m:=Nat.mod_lt _ (by omega)
     have htk:(rot k xs).take (j+1)=(rot k xs).take j++[ptAt xs ((k+j)%m)]:=by
      have hrL:(rot k xs).length=m:=by rw[rot_len (by have:=HR.out.2;omega)];exact HR.out.2
      rw[List.take_succ_eq_append_getElem (by omega),←ptAt_lt (by omega),ptAt_rot (by have:=HR.out.2;omega) (by have:=HR.out.2;omega),HR.out.2]
     generalize (k+j)%m=r at *
     have hrl':(r:Int)<(m:Int):=by omega
     have hwr:IntKind.i64.wrap (r:Int)=(r:Int):=IntWalk.i64_in _ (by omega)
     obtain⟨ad,rfl,-,-,-,-⟩:=HR.out.1.pt hlt2
     obtain⟨-,p1,p2⟩:=((HR.out.1.below hbel).more hbel.size).ptA hrl
     generalize ptAt xs r=P at *
     have HT:=Lib.hid htk
     clear htk
     go_wp2_with (at_builtin;refine wpList_append_any _ rfl (.tmp 29) (.tmp 39) _ rfl w.heap.size 23 i0 _ 2 16 Tryz.underlying25 hi0 hz0 hz1 hz2 rfl (by omega) (.slice A' j c) j _ rfl (hown.alloc _) (wr.alloc (.cells #[.int .i64 P.x,.int .i64 P.y] 23)).heap.size (some ⟨wr.heap.size,0,none⟩) 1 1 (ptsV [P]) rfl (Reads.made wr _ _ _ 2 1 _ rfl rfl) (ptsV_one _) (by simp only[maxLen];omega) (by omega) (by simp;have:=hbel.size;omega) ?_
                  intro v6 w6 hown6 hg6 hat6)
     have hB6:Below w.heap.size w w6:=(hbel.alloc hbel.size _).grown hg6 (by simp;have:=hbel.size;omega) (fun g hg=>(hown.lt g hg).1)
     rw[←ptsV_append,←HT.out]at hown6
     obtain⟨A6,c6,rfl⟩:=own_form hown6
     have H6:=Lib.hid (And.intro hown6 hB6)
     clear hown6 hB6 hg6 hat6 hown hbel p1 p2
     go_wp2_with fail
     go_roundw
     case rel=>exact⟨j+1,by omega,by go_num,⟨A6,c6,rfl,H6.out.1⟩,H6.out.2⟩
     case measure=>simp[intOf];omega
    ·have hjm:j=m:=by omega
     subst hjm
     have hrL:(rot k xs).length=j:=by
      rcases Nat.eq_zero_or_pos j with h|h
      ·have h2:=HR.out.2
       rw[h]at h2
       rw[List.eq_nil_of_length_eq_zero h2,h]
       simp[rot]
      ·rw[rot_len (by have:=HR.out.2;have:=hkm h;omega)];exact HR.out.2
     rw[List.take_of_length_le (by omega)]at hown
     have H7:=Lib.hid (And.intro hown hbel)
     clear hown hbel
     go_wp2_with fail
     go_ret
     exact⟨A',c,rfl,by rw[HKE.out];exact H7.out⟩
abbrev HoldG (W V:World) (a:Addr) (g:Nat) (p q:Pt):Prop:=V.cell? a=some (.int .i64 p.x)∧V.cell? ⟨a.block,a.off+1,none⟩=some (.int .i64 p.y)∧V.cell? ⟨g,0,none⟩=some (.int .i64 q.x)∧V.cell? ⟨g,1,none⟩=some (.int .i64 q.y)∧Below W.heap.size W V
theorem heldG {W V V':World} {a:Addr} {g:Nat} {p q:Pt} (hh:a.block<W.heap.size∧g<W.heap.size) (hs:V.cell? a=some (.int .i64 p.x)∧V.cell? ⟨a.block,a.off+1,none⟩=some (.int .i64 p.y)∧V.cell? ⟨g,0,none⟩=some (.int .i64 q.x)∧V.cell? ⟨g,1,none⟩=some (.int .i64 q.y)∧Below W.heap.size W V) (hb:Below V.heap.size V V'):
 V'.cell? a=some (.int .i64 p.x)∧V'.cell? ⟨a.block,a.off+1,none⟩=some (.int .i64 p.y)∧V'.cell? ⟨g,0,none⟩=some (.int .i64 q.x)∧V'.cell? ⟨g,1,none⟩=some (.int .i64 q.y)∧Below W.heap.size W V':=by
 obtain⟨h1,h2⟩:=hh
 obtain⟨c1,c2,c3,c4,c5⟩:=hs
 have:=c5.size
 exact⟨(hb.cell (p:=a) (by omega)).trans c1,(hb.cell (p:=⟨a.block,a.off+1,none⟩) (by simp only;omega)).trans c2,(hb.cell (p:=⟨g,0,none⟩) (by simp only;omega)).trans c3,(hb.cell (p:=⟨g,1,none⟩) (by simp only;omega)).trans c4,below_on c5 (Nat.le_refl _) hb⟩
set_option maxRecDepth 100000 in
set_option maxHeartbeats 1600000 in
theorem minPt_any (xs:List Pt) (A:Option Addr) (n cap:Nat) (w:World) (hr:Reads w w.heap.size 2 A n (ptsV xs)) (h1:1≤n) (hn:n≤8796093022208):
 Calls Tryz.prog 112 #[.slice A n cap,.func (.func 113) #[] #[]] w fun e w'=>e= .returned (ptV (ptAt xs (leastN xs n)))∧Below w.heap.size w w':=by
 obtain⟨ad,rfl,hbd,-,-,-⟩:=hr.pt (k:=0) (by omega)
 have hb0:=(Below.refl w.heap.size w).alloc (Nat.le_refl _) (.cells #[.int .i64 0,.int .i64 0] 23)
 obtain⟨-,p1,p2⟩:=(hr.below hb0).ptA (k:=0) (by omega)
 have hz0:(0:Int)<(n:Int):=by omega
 have hz2:¬(n:Int)<1:=by omega
 have bR:PtK (w.alloc (.cells #[.int .i64 0,.int .i64 0] 23)) w.heap.size ⟨0,0⟩:=PtK.new w ⟨0,0⟩
 rw[Nat.zero_mul,show ad.add 0=ad from by simp[Addr.add]]at p1 p2
 have hz1:0<n:=by omega
 have HRD:=Lib.hid hr
 clear hr
 have hP0:ptAt xs 0=ptAt xs (leastN xs 1):=by have h:=leastN_lt xs (m:=1) (by omega);rw[show leastN xs 1=0 by omega]
 have HQ0:=Lib.hid hP0
 clear hP0
 generalize ptAt xs 0=P0 at *
 have hB0:=hb0.alloc hb0.size (.cells #[.int .i64 P0.x,.int .i64 P0.y] 23)
 have HR0:Hid (PtK ((w.alloc (.cells #[.int .i64 0,.int .i64 0] 23)).alloc (.cells #[.int .i64 P0.x,.int .i64 P0.y] 23)) w.heap.size ⟨0,0⟩):=PtK.alloc bR _
 have HV0:Hid (PtK ((w.alloc (.cells #[.int .i64 0,.int .i64 0] 23)).alloc (.cells #[.int .i64 P0.x,.int .i64 P0.y] 23)) (w.heap.size+1) P0):=by
  have:=PtK.new (w.alloc (.cells #[.int .i64 0,.int .i64 0] 23)) P0
  rwa [World.size_alloc]at this
 have HB0:=Lib.hid hB0
 clear hB0 hb0 bR
 go_enter Tryz.func112,Tryz.ntmps112
 go_wp2_with fail
 go_loopw [6] (fun i wr=>∃k:Nat,1≤k∧k≤n∧i= .int .i64 (k:Int)∧Below w.heap.size w wr∧PtK wr w.heap.size ⟨0,0⟩∧PtK wr (w.heap.size+1) (ptAt xs (leastN xs k))) (fun i _=>n-(intOf i).toNat)
 case atStart=>exact⟨1,Nat.le_refl _,h1,rfl,HB0.out,HR0.out,by rw[←HQ0.out];exact HV0.out⟩
 case round=>
  clear HB0 HR0 HV0 HQ0 p1 p2 hz2
  obtain⟨k,hk1,hk,rfl,hbel,hR,hV⟩:=hrel
  have hgl:=hV.facts.2.2.2.2
  by_cases hlt:k<n
  ·have hlt':(k:Int)<(n:Int):=by omega
   have hw1:IntKind.i64.wrap ((k:Int)+1)=(k:Int)+1:=by rw[IntKind.wrap_i64];omega
   obtain⟨hbd',p1,p2⟩:=((HRD.out.below hbel).more hbel.size).ptA hlt
   have hst:leastN xs (k+1)=if ordI (ptAt xs k) (ptAt xs (leastN xs k))<0 then k else leastN xs k:=rfl
   have hkp:ptAt xs (leastN xs (k+1))=if ordI (ptAt xs k) (ptAt xs (leastN xs k))<0 then ptAt xs k else ptAt xs (leastN xs k):=by rw[hst];split<;>rfl
   clear hst
   generalize ptAt xs (leastN xs k)=Q at *
   obtain⟨q1,q2,q3,q4,-⟩:=hV.facts
   generalize ptAt xs k=P at *
   have kO:=fun V=>order_any P Q V
   generalize ordI P Q=o at *
   by_cases ho:o<0
   all_goals
    have hP0:HoldG wr wr.drew (ad.add (k*2)) (w.heap.size+1) P Q:=⟨p1,p2,q1,q2,(Below.refl _ _).drew⟩
    have hltM:(ad.add (k*2)).block<wr.heap.size∧w.heap.size+1<wr.heap.size:=by simp only[block_of_add];exact⟨hbd',hgl⟩
    unfold ptV at kO
    have HB:=Lib.hid (And.intro hbel (And.intro hR hV))
    clear hbel hR hV p1 p2 q1 q2 q3 q4 hbd'
    have HST:=Lib.hid hkp
    clear hkp
    go_wp2_with fail
    go_region_held3 (fun V=>V.cell? (ad.add (k*2))=some (.int .i64 P.x)∧V.cell? ⟨(ad.add (k*2)).block,(ad.add (k*2)).off+1,none⟩=some (.int .i64 P.y)∧V.cell? ⟨w.heap.size+1,0,none⟩=some (.int .i64 Q.x)∧V.cell? ⟨w.heap.size+1,1,none⟩=some (.int .i64 Q.y)∧Below wr.heap.size wr V)
     (first|with_reducible exact hP0|with_reducible exact heldG hltM (by assumption) (by assumption))
     (first
       |(go_simp;go_at_call 113;(with_reducible refine(kO _).mono ?_);rintro e w' ⟨rfl,hb'⟩;try dsimp only))
    clear hP0
    obtain⟨-,p3,-,-,hbV⟩:=(by assumption:HoldG wr _ (ad.add (k*2)) (w.heap.size+1) P Q)
    have hV':=HB.out.2.2.on hbV
    have hR':=HB.out.2.1.on hbV
    obtain⟨q1,q2,q3,q4,-⟩:=hV'.facts
    have HV:=Lib.hid (And.intro (below_on HB.out.1 (Nat.le_refl _) hbV) (And.intro hR' hV'))
    clear hbV hV' hR' q1 q2
    go_wp2_with fail
    go_roundw
    case rel=>
     refine⟨k+1,by omega,by omega,by go_num,?_⟩
     first
      |exact⟨HV.out.1,HV.out.2.1,by rw[HST.out,if_neg (by omega)];exact HV.out.2.2⟩
      |exact⟨(HV.out.1.setCell (p:=⟨w.heap.size+1,0,none⟩) (by simp) _).setCell (p:=⟨w.heap.size+1,1,none⟩) (by simp) _,(HV.out.2.1.far (a:=⟨w.heap.size+1,0,none⟩) (by simp) _).far (a:=⟨w.heap.size+1,1,none⟩) (by simp) _,by rw[HST.out,if_pos (by omega)];exact HV.out.2.2.put P⟩
    case measure=>simp[intOf];omega
  ·have hkn:k=n:=by omega
   subst hkn
   obtain⟨Q,hQ⟩:∃Q,Q=ptAt xs (leastN xs k):=⟨_,rfl⟩
   rw[←hQ]at hV
   have HQ:=Lib.hid hQ
   clear hQ
   obtain⟨q1,q2,q3,q4,-⟩:=hV.facts
   obtain⟨r1,r2,f3,f4,-⟩:=hR.facts
   have hbP:=(hbel.setCell (p:=⟨w.heap.size,0,none⟩) (Nat.le_refl _) (.int .i64 Q.x)).setCell (p:=⟨w.heap.size,1,none⟩) (Nat.le_refl _) (.int .i64 Q.y)
   obtain⟨z1,z2,-,-,-⟩:=(hR.put Q).facts
   have HB:=Lib.hid hbP
   clear hbel hR hbP
   go_wp2_with fail
   exact bodyPost_ret (v:=ptV Q) (by unfold ptV;simp[results,Tryz.results112,go_sem,z1,z2]) rfl ⟨by rw[HQ.out],HB.out⟩
theorem ordI_neg {a b:Pt}:ordI a b<0↔a.x<b.x∨(a.x=b.x∧a.y<b.y):=by
 unfold ordI orI
 rcases cmpI_cases a.x b.x with ⟨h,e⟩|⟨h,e⟩|⟨h,e⟩<;>rcases cmpI_cases a.y b.y with ⟨h',e'⟩|⟨h',e'⟩|⟨h',e'⟩<;>rw[e,e']<;>simp<;>omega
theorem leastN_first (xs:List Pt) (m:Nat):(∀j,j<m→¬ordI (ptAt xs j) (ptAt xs (leastN xs m))<0)∧∀j,j<leastN xs m→ptAt xs j≠ptAt xs (leastN xs m):=by
 induction m with
 |zero=>exact⟨fun j hj=>absurd hj (Nat.not_lt_zero _),fun j hj=>absurd hj (Nat.not_lt_zero _)⟩
 |succ m ih=>
  obtain⟨i1,i2⟩:=ih
  have hst:leastN xs (m+1)=if ordI (ptAt xs m) (ptAt xs (leastN xs m))<0 then m else leastN xs m:=rfl
  by_cases h:ordI (ptAt xs m) (ptAt xs (leastN xs m))<0
  ·rw[if_pos h]at hst
   rw[hst]
   refine⟨fun j hj=>?_,fun j hj he=>?_⟩
   ·by_cases e:j=m
    ·subst e;rw[ordI_neg];omega
    ·have:=i1 j (by omega)
     rw[ordI_neg]at this h ⊢
     omega
   ·exact i1 j hj (by rw[he];exact h)
  ·rw[if_neg h]at hst
   rw[hst]
   refine⟨fun j hj=>?_,i2⟩
   by_cases e:j=m
   ·subst e;exact h
   ·exact i1 j (by omega)
theorem Reads.takeP {w:World} {B n k:Nat} {A:Option Addr} {xs:List Pt} (h:Reads w B 2 A n (ptsV xs)) (hk:k≤n):Reads w B 2 A k (ptsV (xs.take k)):=by
 have hl:=h.lenPt
 refine⟨by rw[ptsV_length,List.length_take];omega,fun hp=>?_⟩
 obtain⟨ad,e,hb,hc⟩:=h.2 (by omega)
 refine⟨ad,e,hb,fun j u hu=>hc j u ?_⟩
 rw[←List.take_append_drop k xs,ptsV_append,List.getElem?_append_left (by have:=(List.getElem?_eq_some_iff.1 hu).1;exact this)]
 exact hu
theorem drop_ptsV (xs:List Pt) (k:Nat):(ptsV xs).drop (k*2)=ptsV (xs.drop k):=by
 by_cases h:k≤xs.length
 ·have e:ptsV xs=ptsV (xs.take k)++ptsV (xs.drop k):=by rw[←ptsV_append,List.take_append_drop]
  rw[e,List.drop_left' (by rw[ptsV_length,List.length_take];omega)]
 ·rw[List.drop_eq_nil_of_le (by omega:xs.length≤k),List.drop_eq_nil_of_le (by rw[ptsV_length];omega)]
  rfl
theorem Reads.dropP {w:World} {B n k cap:Nat} {ad:Addr} {xs:List Pt} (h:Reads w B 2 (some ad) n (ptsV xs)) (hk:k≤n) (hc:n≤cap) (hne:¬cap=k):Reads w B 2 (some (ad.add (k*2))) (n-k) (ptsV (xs.drop k)):=by
 have:=h.cut hk hc
 rw[drop_ptsV,if_neg hne]at this
 exact this
set_option maxRecDepth 100000 in
set_option maxHeartbeats 1600000 in
theorem leastP_any (xs:List Pt) (A:Option Addr) (n cap:Nat) (w:World) (hr:Reads w w.heap.size 2 A n (ptsV xs)) (hc:n≤cap) (hn:n≤1048576):
 Calls Tryz.prog 67 #[.slice A n cap] w fun e w'=>∃A' c,e= .returned (.slice A' n c)∧w'.ownsRow w.heap.size 23 2 (.slice A' n c) n (ptsV (rot (leastN xs n) xs))∧Below w.heap.size w w':=by
 have hl:xs.length=n:=hr.lenPt
 by_cases h0:n=0
 ·subst h0
  obtain rfl:=List.eq_nil_of_length_eq_zero hl
  clear hr
  go_enter Tryz.func67,Tryz.ntmps67
  go_wp2_with fail
  go_ret
  exact⟨none,0,rfl,by simp[rot,ptsV,World.ownsRow_nil],Below.refl _ _⟩
 ·have h0':¬(n:Int)=0:=by omega
  have hkn:=leastN_lt xs (m:=n) (by omega)
  have kM:=Lib.hid (minPt_any xs A n cap w hr (by omega) (by omega))
  have kF:=Lib.hid (leastN_first xs n).2
  obtain⟨k,hk⟩:∃k,k=leastN xs n:=⟨_,rfl⟩
  rw[←hk]at kM kF hkn ⊢
  clear hk
  obtain⟨ad,rfl,-,-,-,-⟩:=hr.pt (k:=0) (by omega)
  have HR:=Lib.hid (And.intro hr hl)
  clear hr hl
  go_enter Tryz.func67,Tryz.ntmps67
  go_wp2_with fail
  refine kM.out.mono ?_
  rintro e w1 ⟨rfl,hb1⟩
  have kI:=Lib.hid (indexPt_any xs (some ad) n cap k w1 (HR.out.1.on hb1) hkn kF.out (by omega))
  clear kM kF
  have HB:=Lib.hid hb1
  clear hb1
  go_wp2_with fail
  refine kI.out.mono ?_
  rintro e w2 ⟨rfl,hb2⟩
  have HB2:=Lib.hid (below_on HB.out (Nat.le_refl _) hb2)
  clear HB hb2 kI
  have e1:(k:Int)≤(n:Int):=by omega
  have e2:(n:Int)≤(cap:Int):=by omega
  have e3:¬cap=k:=by omega
  have e4:(k:Int)≤(cap:Int):=by omega
  have e5:¬(k:Int)<0:=by omega
  have e6:k≤n:=by omega
  have e7:k≤cap:=by omega
  go_wp2_with fail
  have hP0:Below w2.heap.size w2 w2.drew:=(Below.refl _ _).drew
  have hSA:Below w2.heap.size w2 (World.drew (w2.alloc (.cells #[.slice (some (ad.add (k*2))) (n-k) (cap-k),.slice (some ad) k cap] 25))):=((Below.refl _ _).alloc (Nat.le_refl _) _).drew
  have hRx:Reads w2 w2.heap.size 2 (some ad) n (ptsV xs):=HR.out.1.on HB2.out
  have kC:=concatPt_any (xs.drop k) (xs.take k) (some (ad.add (k*2))) (some ad) (n-k) k (cap-k) cap w2.heap.size 2 (World.drew (w2.alloc (.cells #[.slice (some (ad.add (k*2))) (n-k) (cap-k),.slice (some ad) k cap] 25)))
   ((hRx.dropP e6 hc e3).on hSA) ((hRx.takeP e6).on hSA) (by simp) (Blk.cell (Blk.new w2 _ _) 0) (Blk.cell (Blk.new w2 _ _) 1) (by omega) (by omega)
  rw[show n-k+k=n by omega]at kC
  have kC:=Lib.hid kC
  clear hRx
  go_region_held3 (fun V=>Below w2.heap.size w2 V)
   (first|with_reducible exact hP0|with_reducible exact hSA|with_reducible exact hSB)
   (first
     |(go_simp;go_at_call 68;(with_reducible refine(kC.out).mono ?_);rintro e w' ⟨A',c',rfl,ho',hb'⟩;have hSB:=below_on hSA (Nat.le_refl _) hb';try dsimp only))
  all_goals
   clear hP0 hSA
   have HF:=Lib.hid (And.intro (own_mono ho' (Nat.le_trans HB2.out.size (by simp))) (below_on HB2.out (Nat.le_refl _) hSB))
   clear ho' hb' hSB HB2 kC
   go_wp2_with fail
   go_ret
   exact⟨A',c',rfl,HF.out⟩
def pcAt (ps:List Parc) (k:Nat):Parc:=ps[k]?.getD ⟨0,[],ByteArray.empty⟩
theorem pcAt_lt {ps:List Parc} {k:Nat} (h:k<ps.length):pcAt ps k=ps[k]:=by unfold pcAt;simp[h]
def PIn (W:World) (B:Nat) (A:Option Addr) (n:Nat) (ps:List Parc):Prop:=
 ps.length=n∧(0<n→∃ad,A=some ad∧ad.block<B∧∀k,k<n→W.cell? (ad.add (k*3))=some (.int .i64 (pcAt ps k).id)∧
  (∃Ak nk ck,W.cell? (ad.add (k*3+1))=some (.slice Ak nk ck)∧Reads W B 2 Ak nk (ptsV (pcAt ps k).ring)∧nk≤ck∧ck≤9223372036854775807)∧W.cell? (ad.add (k*3+2))=some (.string (pcAt ps k).owner))
theorem PIn.keep {W W':World} {B n:Nat} {A:Option Addr} {ps:List Parc} (h:PIn W B A n ps) (hk:∀p:Addr,p.block<B→W'.cell? p=W.cell? p):PIn W' B A n ps:=by
 refine⟨h.1,fun h0=>?_⟩
 obtain⟨ad,e,hb,hc⟩:=h.2 h0
 refine⟨ad,e,hb,fun k hkn=>?_⟩
 obtain⟨h1,⟨Ak,nk,ck,h2,h3,h4⟩,h5⟩:=hc k hkn
 exact⟨(hk _ (by rw[block_of_add];exact hb)).trans h1,⟨Ak,nk,ck,(hk _ (by rw[block_of_add];exact hb)).trans h2,h3.keep hk,h4⟩,(hk _ (by rw[block_of_add];exact hb)).trans h5⟩
theorem PIn.more {W:World} {B B' n:Nat} {A:Option Addr} {ps:List Parc} (h:PIn W B A n ps) (hB:B≤B'):PIn W B' A n ps:=by
 refine⟨h.1,fun h0=>?_⟩
 obtain⟨ad,e,hb,hc⟩:=h.2 h0
 refine⟨ad,e,Nat.lt_of_lt_of_le hb hB,fun k hkn=>?_⟩
 obtain⟨h1,⟨Ak,nk,ck,h2,h3,h4⟩,h5⟩:=hc k hkn
 exact⟨h1,⟨Ak,nk,ck,h2,h3.more hB,h4⟩,h5⟩
theorem PIn.below {W W':World} {B n:Nat} {A:Option Addr} {ps:List Parc} (h:PIn W B A n ps) (hb:Below B W W'):PIn W' B A n ps:=h.keep fun _ hp=>hb.cell hp
theorem PIn.on {W W':World} {n:Nat} {A:Option Addr} {ps:List Parc} (h:PIn W W.heap.size A n ps) (hb:Below W.heap.size W W'):PIn W' W'.heap.size A n ps:=(h.below hb).more hb.size
theorem add_off3 (ad:Addr) (k j:Nat) (hj:0<j):(⟨(ad.add k).block,(ad.add k).off+j,none⟩:Addr)=ad.add (k+j):=by
 simp only[Addr.add]
 rw[if_neg (by omega:¬k+j=0)]
 split<;>simp<;>omega
theorem PIn.at_ {W:World} {B n:Nat} {ad:Addr} {ps:List Parc} (h:PIn W B (some ad) n ps) {k:Nat} (hk:k<n):
 ad.block<B∧W.cell? (ad.add (k*3))=some (.int .i64 (pcAt ps k).id)∧(∃Ak nk ck,W.cell? ⟨(ad.add (k*3)).block,(ad.add (k*3)).off+1,none⟩=some (.slice Ak nk ck)∧Reads W B 2 Ak nk (ptsV (pcAt ps k).ring)∧nk≤ck∧ck≤9223372036854775807)∧
  W.cell? ⟨(ad.add (k*3)).block,(ad.add (k*3)).off+2,none⟩=some (.string (pcAt ps k).owner):=by
 obtain⟨ad',e,hb,hc⟩:=h.2 (by omega)
 obtain rfl:ad=ad':=by simpa using e
 obtain⟨h1,⟨Ak,nk,ck,h2,h3,h4⟩,h5⟩:=hc k hk
 exact⟨hb,h1,⟨Ak,nk,ck,by rw[add_off3 _ _ _ (by omega)];exact h2,h3,h4⟩,by rw[add_off3 _ _ _ (by omega)];exact h5⟩
theorem PIn.some_ {W:World} {B n:Nat} {A:Option Addr} {ps:List Parc} (h:PIn W B A n ps) (hn:0<n):∃ad,A=some ad:=by
 obtain⟨ad,e,-⟩:=h.2 hn
 exact⟨ad,e⟩
/-- What a plan's numbers and lengths are bound by. -/
def Parc.fits (x:Parc):Prop:=x.ring.length≤8796093022208∧(∀p∈x.ring,p.inI)∧inI x.id∧x.owner.size≤9223372036854775807
def Plan.fits (p:Plan):Prop:=(p.outer.length≤8796093022208∧∀q∈p.outer,q.inI)∧p.parcels.length≤8796093022208∧∀x∈p.parcels,x.fits
theorem Plan.fits.pc {p:Plan} (h:p.fits) {k:Nat} (hk:k<p.parcels.length):(pcAt p.parcels k).fits:=by
 rw[pcAt_lt hk];exact h.2.2 _ (List.getElem_mem hk)
structure PlanAt (W:World) (B:Nat) (A:Option Addr) (n c:Nat) (A':Option Addr) (n' c':Nat) (p:Plan):Prop where
 outer:Reads W B 2 A n (ptsV p.outer)
 parcs:PIn W B A' n' p.parcels
 oc:n≤c∧c≤9223372036854775807
 pc:n'≤c'∧c'≤9223372036854775807
 fits:p.fits
theorem PlanAt.below {W W':World} {B n c n' c':Nat} {A A':Option Addr} {p:Plan} (h:PlanAt W B A n c A' n' c' p) (hb:Below B W W'):PlanAt W' B A n c A' n' c' p:=⟨h.outer.below hb,h.parcs.below hb,h.oc,h.pc,h.fits⟩
theorem PlanAt.more {W:World} {B B' n c n' c':Nat} {A A':Option Addr} {p:Plan} (h:PlanAt W B A n c A' n' c' p) (hB:B≤B'):PlanAt W B' A n c A' n' c' p:=⟨h.outer.more hB,h.parcs.more hB,h.oc,h.pc,h.fits⟩
theorem PlanAt.on {W W':World} {n c n' c':Nat} {A A':Option Addr} {p:Plan} (h:PlanAt W W.heap.size A n c A' n' c' p) (hb:Below W.heap.size W W'):PlanAt W' W'.heap.size A n c A' n' c' p:=(h.below hb).more hb.size
theorem PlanAt.lens {W:World} {B n c n' c':Nat} {A A':Option Addr} {p:Plan} (h:PlanAt W B A n c A' n' c' p):p.outer.length=n∧p.parcels.length=n'∧n≤8796093022208∧n'≤8796093022208:=by
 have h1:=h.outer.lenPt
 have h2:=h.parcs.1
 have h3:=h.fits.1.1
 have h4:=h.fits.2.1
 exact⟨h1,h2,by omega,by omega⟩
abbrev planV (A:Option Addr) (n c:Nat) (A':Option Addr) (n' c':Nat):Value:= .agg #[.slice A n c,.slice A' n' c']
/-- A block that holds one parcel. -/
def PcK (W:World) (g:Nat) (x:Parc) (A:Option Addr) (n c:Nat):Prop:=Blk W g 27 #[.int .i64 x.id,.slice A n c,.string x.owner]
theorem PcK.facts {W:World} {g:Nat} {x:Parc} {A:Option Addr} {n c:Nat} (h:PcK W g x A n c):W.cell? ⟨g,0,none⟩=some (.int .i64 x.id)∧W.cell? ⟨g,1,none⟩=some (.slice A n c)∧W.cell? ⟨g,2,none⟩=some (.string x.owner)∧g<W.heap.size:=
 ⟨by rw[Blk.cell h 0];rfl,by rw[Blk.cell h 1];rfl,by rw[Blk.cell h 2];rfl,Blk.lt h⟩
theorem PcK.new (w:World) (x:Parc) (A:Option Addr) (n c:Nat):PcK (w.alloc (.cells #[.int .i64 x.id,.slice A n c,.string x.owner] 27)) w.heap.size x A n c:=Blk.new w _ _
theorem PcK.on {W W':World} {g:Nat} {x:Parc} {A:Option Addr} {n c:Nat} (h:PcK W g x A n c) (hb:Below W.heap.size W W'):PcK W' g x A n c:=Blk.below h hb (Blk.lt h)
/-- A block that holds a plan's two slices. -/
def PlK (W:World) (g:Nat) (A:Option Addr) (n c:Nat) (A':Option Addr) (n' c':Nat):Prop:=Blk W g 30 #[.slice A n c,.slice A' n' c']
theorem PlK.facts {W:World} {g:Nat} {A A':Option Addr} {n c n' c':Nat} (h:PlK W g A n c A' n' c'):W.cell? ⟨g,0,none⟩=some (.slice A n c)∧W.cell? ⟨g,1,none⟩=some (.slice A' n' c')∧g<W.heap.size:=
 ⟨by rw[Blk.cell h 0];rfl,by rw[Blk.cell h 1];rfl,Blk.lt h⟩
theorem PlK.new (w:World) (A:Option Addr) (n c:Nat) (A':Option Addr) (n' c':Nat):PlK (w.alloc (.cells #[.slice A n c,.slice A' n' c'] 30)) w.heap.size A n c A' n' c':=Blk.new w _ _
theorem PlK.on {W W':World} {g:Nat} {A A':Option Addr} {n c n' c':Nat} (h:PlK W g A n c A' n' c') (hb:Below W.heap.size W W'):PlK W' g A n c A' n' c':=Blk.below h hb (Blk.lt h)
end Go.Proofs.YtpkeacnacjnlcaaGreat
namespace Go.Proofs.YtpkeacnacjnlcaaGreat
open Go.ChangeMaps (setBlock)
variable {α:Type} {P:Program}
/-- What a key's type has to be good for. -/
structure WideFits [DecidableEq α] (P:Program) (K:TypeId) (enc:α→Value):Prop where
 wide:(match P.underlying K with|some (.array _ _)|some (.struct _)=>true|_=>false)=true
 eq:∀(x y:α) (w:World),(Op.equal K (enc x) (enc y)).run P w= .ok (decide (x=y)) w
 check:∀(em:Bool) (x:α) (w:World),(Instr.checkKey em 10000 K (enc x)).run P w= .ok () w
 same:∀x:α,Instr.sameBits 10000 (enc x) (enc x)=true
def entF (enc:α→Value) (z:(α×Value)×Nat):MapEntry:={ key:=enc z.1.1,val:=z.1.2,born:=z.2 }
def entriesOf (enc:α→Value) (l:List (α×Value)):Array MapEntry:=(l.zipIdx.map (entF enc)).toArray
def MapB (W:World) (b:Nat) (enc:α→Value) (l:List (α×Value)):Prop:=W.heap[b]?=some (.map (entriesOf enc l) l.length)
def look [DecidableEq α]:List (α×Value)→α→Option Value
 |[],_=>none
 |(k,v)::l,x=>if x=k then some v else look l x
def findL [DecidableEq α] (x:α):List (α×Value)→Nat→Option (Nat×Value)
 |[],_=>none
 |(k,v)::l,i=>if x=k then some (i,v)else findL x l (i+1)
theorem findL_look [DecidableEq α] (x:α) (l:List (α×Value)):∀i,(findL x l i).map (·.2)=look l x:=by
 induction l with
 |nil=>intro i;rfl
 |cons z l ih=>
  obtain⟨k,v⟩:=z
  intro i
  unfold findL look
  split
  ·rfl
  ·exact ih (i+1)
theorem look_none [DecidableEq α] {l:List (α×Value)} {x:α}:look l x=none↔x∉l.map (·.1):=by
 induction l with
 |nil=>simp[look]
 |cons z l ih=>
  obtain⟨k,v⟩:=z
  unfold look
  by_cases h:x=k
  ·simp[h]
  ·rw[if_neg h,ih];simp[h]
theorem look_mem [DecidableEq α] {l:List (α×Value)} {x:α} {v:Value} (h:look l x=some v):(x,v)∈l:=by
 induction l with
 |nil=>simp[look]at h
 |cons z l ih=>
  obtain⟨k,u⟩:=z
  unfold look at h
  split at h
  ·rename_i e
   simp at h
   subst e h
   simp
  ·exact List.mem_cons_of_mem _ (ih h)
theorem find_runs [DecidableEq α] {K:TypeId} {enc:α→Value} (F:WideFits P K enc) (x:α) (w:World) (l:List (α×Value)):∀i,(Instr.findAsking K (enc x) ((l.zipIdx i).map (entF enc)) i).run P w= .ok (findL x l i) w:=by
 induction l with
 |nil=>intro i;simp[Instr.findAsking,findL]
 |cons z l ih=>
  obtain⟨k,v⟩:=z
  intro i
  have h:=F.eq x k w
  by_cases e:x=k
  ·rw[decide_eq_true e]at h
   unfold findL
   rw[if_pos e]
   simp[Instr.findAsking,entF,h]
  ·rw[decide_eq_false e]at h
   simp[Instr.findAsking,findL,entF,h,e]
   exact ih (i+1)
/-- What a key's type has to be good for. -/
structure KeyFits [DecidableEq α] (P:Program) (K:TypeId) (enc:α→Value):Prop where
 find:∀(x:α) (w:World) (l:List (α×Value)),(Instr.findKey K (enc x) (entriesOf enc l).toList).run P w= .ok (findL x l 0) w
 check:∀(em:Bool) (x:α) (w:World),(Instr.checkKey em 10000 K (enc x)).run P w= .ok () w
 same:∀x:α,Instr.sameBits 10000 (enc x) (enc x)=true
theorem WideFits.key [DecidableEq α] {K:TypeId} {enc:α→Value} (F:WideFits P K enc):KeyFits P K enc:=
 ⟨fun x w l=>by rw[run_findKey_eq (w:=w) F.wide];exact find_runs F x w l 0,F.check,F.same⟩
theorem run_find [DecidableEq α] {K:TypeId} {enc:α→Value} (F:KeyFits P K enc) (x:α) (w:World) (l:List (α×Value)):(Instr.findKey K (enc x) (entriesOf enc l).toList).run P w= .ok (findL x l 0) w:=F.find x w l
theorem MapB.made (w:World) (enc:α→Value):MapB (w.alloc (.map #[] 0)) w.heap.size enc []:=(MapKept.heap_alloc w _).1
theorem MapB.lt {W:World} {b:Nat} {enc:α→Value} {l:List (α×Value)} (h:MapB W b enc l):b<W.heap.size:=(Array.getElem?_eq_some_iff.1 h).1
theorem MapB.kept {W W':World} {b:Nat} {enc:α→Value} {l:List (α×Value)} (h:MapB W b enc l) (he:W'.heap[b]?=W.heap[b]?):MapB W' b enc l:=he.trans h
theorem run_look_in [DecidableEq α] {K T E:TypeId} {enc:α→Value} (F:KeyFits P K enc) (ht:P.underlying T=some (.map K E)) {W:World} {b:Nat} {l:List (α×Value)} (h:MapB W b enc l) {x:α} {v:Value} (hx:look l x=some v):
 (Instr.lookup T (.map (some b)) (enc x) true).run P W= .ok (.tuple #[v,.bool true]) W:=by
 have hf:=run_find F x W l
 have hl:=findL_look x l 0
 rw[hx]at hl
 cases hq:findL x l 0 with
 |none=>rw[hq]at hl;simp at hl
 |some z=>
  rw[hq]at hl hf
  simp at hl
  have hb:W.heap[b]?=some (.map (entriesOf enc l) l.length):=h
  simp[Instr.lookup,run_underlying ht,getObj,Sem.run,hb,F.check,hf,←hl]
theorem run_look_out [DecidableEq α] {K T E:TypeId} {enc:α→Value} (F:KeyFits P K enc) (ht:P.underlying T=some (.map K E)) {z:Value} (hz:∀w,(zeroValue E).run P w= .ok z w) {W:World} {b:Nat} {l:List (α×Value)} (h:MapB W b enc l) {x:α} (hx:look l x=none):
 (Instr.lookup T (.map (some b)) (enc x) true).run P W= .ok (.tuple #[z,.bool false]) W:=by
 have hf:=run_find F x W l
 have hl:=findL_look x l 0
 rw[hx]at hl
 cases hq:findL x l 0 with
 |some z=>rw[hq]at hl;simp at hl
 |none=>
  rw[hq]at hf
  have hb:W.heap[b]?=some (.map (entriesOf enc l) l.length):=h
  simp[Instr.lookup,run_underlying ht,getObj,Sem.run,hb,F.check,hf,hz]
theorem run_look_in1 [DecidableEq α] {K T E:TypeId} {enc:α→Value} (F:KeyFits P K enc) (ht:P.underlying T=some (.map K E)) {W:World} {b:Nat} {l:List (α×Value)} (h:MapB W b enc l) {x:α} {v:Value} (hx:look l x=some v):
 (Instr.lookup T (.map (some b)) (enc x) false).run P W= .ok v W:=by
 have hf:=run_find F x W l
 have hl:=findL_look x l 0
 rw[hx]at hl
 cases hq:findL x l 0 with
 |none=>rw[hq]at hl;simp at hl
 |some z=>
  rw[hq]at hl hf
  simp at hl
  have hb:W.heap[b]?=some (.map (entriesOf enc l) l.length):=h
  simp[Instr.lookup,run_underlying ht,getObj,Sem.run,hb,F.check,hf,←hl]
theorem run_look_out1 [DecidableEq α] {K T E:TypeId} {enc:α→Value} (F:KeyFits P K enc) (ht:P.underlying T=some (.map K E)) {z:Value} (hz:∀w,(zeroValue E).run P w= .ok z w) {W:World} {b:Nat} {l:List (α×Value)} (h:MapB W b enc l) {x:α} (hx:look l x=none):
 (Instr.lookup T (.map (some b)) (enc x) false).run P W= .ok z W:=by
 have hf:=run_find F x W l
 have hl:=findL_look x l 0
 rw[hx]at hl
 cases hq:findL x l 0 with
 |some z=>rw[hq]at hl;simp at hl
 |none=>
  rw[hq]at hf
  have hb:W.heap[b]?=some (.map (entriesOf enc l) l.length):=h
  simp[Instr.lookup,run_underlying ht,getObj,Sem.run,hb,F.check,hf,hz]
theorem entriesOf_snoc (enc:α→Value) (l:List (α×Value)) (x:α) (v:Value):entriesOf enc (l++[(x,v)])=(entriesOf enc l).push { key:=enc x,val:=v,born:=l.length }:=by
 unfold entriesOf
 rw[List.zipIdx_append,List.map_append]
 simp[entF]
theorem run_put_new [DecidableEq α] {K T E:TypeId} {enc:α→Value} (F:KeyFits P K enc) (ht:P.underlying T=some (.map K E)) {W:World} {b:Nat} {l:List (α×Value)} (h:MapB W b enc l) {x:α} (v:Value) (hx:look l x=none):
 ∃W',(Instr.mapUpdate T (.map (some b)) (enc x) v).run P W= .ok () W'∧MapB W' b enc (l++[(x,v)])∧W.grownBy W' (some b):=by
 have hf:=run_find F x W l
 have hl:=findL_look x l 0
 rw[hx]at hl
 cases hq:findL x l 0 with
 |some z=>rw[hq]at hl;simp at hl
 |none=>
  rw[hq]at hf
  have hb:W.heap[b]?=some (.map (entriesOf enc l) l.length):=h
  have hlt:=h.lt
  refine⟨setBlock W b (.map (entriesOf enc (l++[(x,v)])) (l.length+1)),?_,?_,?_⟩
  ·rw[entriesOf_snoc]
   simp[Instr.mapUpdate,run_underlying ht,getObj,setObj,Sem.run,hb,F.check,hf,setBlock]
  ·unfold MapB setBlock
   simp[hlt]
  ·refine⟨rfl,rfl,rfl,by simp[setBlock],fun k hk hne=>?_⟩
   have:b≠k:=fun e=>hne (by rw[e])
   simp[setBlock,this]
def upd [DecidableEq α] (x:α) (v:Value):List (α×Value)→List (α×Value)
 |[]=>[]
 |(k,u)::l=>if x=k then(k,v)::l else(k,u)::upd x v l
theorem upd_look [DecidableEq α] {x:α} {v u:Value} {l:List (α×Value)} (h:look l x=some u) (y:α):look (upd x v l) y=if y=x then some v else look l y:=by
 induction l with
 |nil=>simp[look]at h
 |cons z l ih=>
  obtain⟨k,u'⟩:=z
  unfold upd
  by_cases e:x=k
  ·subst e
   rw[if_pos rfl]
   unfold look
   by_cases e2:y=x<;>simp[e2]
  ·rw[if_neg e]
   have h':look l x=some u:=by unfold look at h;rwa [if_neg e]at h
   unfold look
   by_cases e2:y=k
   ·subst e2
    have hne:¬y=x:=fun h'=>e h'.symm
    simp[hne]
   ·rw[if_neg e2,ih h',if_neg e2]
theorem upd_len [DecidableEq α] (x:α) (v:Value) (l:List (α×Value)):(upd x v l).length=l.length:=by
 induction l with
 |nil=>rfl
 |cons z l ih=>
  obtain⟨k,u⟩:=z
  unfold upd
  split<;>simp[ih]
theorem upd_entries [DecidableEq α] (enc:α→Value) {x:α} {v:Value} {l:List (α×Value)}:∀ {s:Nat} {i:Nat} {u:Value},findL x l s=some (i,u)→
 s≤i∧((l.zipIdx s).map (entF enc)).modify (i-s) (fun e=>{ e with key:=enc x,val:=v })=((upd x v l).zipIdx s).map (entF enc)∧(((l.zipIdx s).map (entF enc))[i-s]?).map (·.key)=some (enc x):=by
 induction l with
 |nil=>intro s i u h;simp[findL]at h
 |cons z l ih=>
  obtain⟨k,u'⟩:=z
  intro s i u h
  unfold findL at h
  by_cases e:x=k
  ·rw[if_pos e]at h
   simp at h
   obtain⟨rfl,rfl⟩:=h
   subst e
   refine⟨Nat.le_refl _,?_,by simp[entF]⟩
   unfold upd
   rw[if_pos rfl]
   simp[entF]
  ·rw[if_neg e]at h
   obtain⟨h1,h2,h3⟩:=ih h
   have hi:i-s=(i-(s+1))+1:=by omega
   refine⟨by omega,?_,?_⟩
   ·unfold upd
    rw[if_neg e,hi]
    simp only[List.zipIdx_cons,List.map_cons,List.modify_succ_cons]
    rw[h2]
   ·rw[hi]
    simpa using h3
theorem run_put_old [DecidableEq α] {K T E:TypeId} {enc:α→Value} (F:KeyFits P K enc) (ht:P.underlying T=some (.map K E)) {W:World} {b:Nat} {l:List (α×Value)} (h:MapB W b enc l) {x:α} {u:Value} (v:Value) (hx:look l x=some u):
 ∃W',(Instr.mapUpdate T (.map (some b)) (enc x) v).run P W= .ok () W'∧MapB W' b enc (upd x v l)∧W.grownBy W' (some b):=by
 have hf:=run_find F x W l
 have hl:=findL_look x l 0
 rw[hx]at hl
 cases hq:findL x l 0 with
 |none=>rw[hq]at hl;simp at hl
 |some z=>
  obtain⟨i,u'⟩:=z
  rw[hq]at hf
  obtain⟨-,h2,h3⟩:=upd_entries enc (v:=v) hq
  rw[Nat.sub_zero]at h2 h3
  have hb:W.heap[b]?=some (.map (entriesOf enc l) l.length):=h
  have hlt:=h.lt
  have hk3:((entriesOf enc l)[i]?).map (·.key)=some (enc x):=by unfold entriesOf;simpa using h3
  have hmod:(entriesOf enc l).modify i (fun e=>{ e with key:=enc x,val:=v })=entriesOf enc (upd x v l):=by
   unfold entriesOf
   rw[←h2]
   simp
  refine⟨setBlock W b (.map (entriesOf enc (upd x v l)) l.length),?_,?_,?_⟩
  ·rw[←hmod]
   simp[Instr.mapUpdate,run_underlying ht,getObj,setObj,Sem.run,hb,F.check,hf,setBlock,hk3,Instr.keyThatStays,F.same]
  ·unfold MapB setBlock
   simp[hlt,upd_len]
  ·refine⟨rfl,rfl,rfl,by simp[setBlock],fun k hk hne=>?_⟩
   have:b≠k:=fun e=>hne (by rw[e])
   simp[setBlock,this]
/-- An iterator over such a map: which places have come. -/
def IterB (W:World) (r b n:Nat) (seen:Array Nat):Prop:=W.heap[r]?=some (.mapIter (some b) n seen n)
theorem IterB.kept {W W':World} {r b n:Nat} {seen:Array Nat} (h:IterB W r b n seen) (he:W'.heap[r]?=W.heap[r]?):IterB W' r b n seen:=he.trans h
theorem run_range_map {T K E:TypeId} (ht:P.underlying T=some (.map K E)) {W:World} {b:Nat} {enc:α→Value} {l:List (α×Value)} (h:MapB W b enc l):
 (Instr.range T (.map (some b))).run P W= .ok (.pointer (some ⟨W.heap.size,0,none⟩)) (W.alloc (.mapIter (some b) l.length #[] l.length)):=by
 have hb:W.heap[b]?=some (.map (entriesOf enc l) l.length):=h
 simp[Instr.range,run_underlying ht,getObj,Sem.run,hb,newObj]
theorem mem_entries {enc:α→Value} {l:List (α×Value)} {e:MapEntry} (h:e∈(entriesOf enc l).toList):∃i,∃hi:i<l.length,e={ key:=enc l[i].1,val:=l[i].2,born:=i }:=by
 unfold entriesOf at h
 simp only[List.mem_map]at h
 obtain⟨⟨⟨k,v⟩,i⟩,h1,rfl⟩:=h
 have h2:=List.mem_zipIdx' h1
 exact⟨i,h2.1,by simp[entF,←h2.2]⟩
theorem entries_at {enc:α→Value} {l:List (α×Value)} {i:Nat} (hi:i<l.length):({ key:=enc l[i].1,val:=l[i].2,born:=i }:MapEntry)∈(entriesOf enc l).toList:=by
 unfold entriesOf
 simp only[List.mem_map]
 exact⟨(l[i],i),by simp[List.mem_zipIdx_iff_getElem?,hi],rfl⟩
def leftW (W:World) (r b:Nat):Nat:=match W.heap[r]?,W.heap[b]? with|some (.mapIter _ _ seen _),some (.map es _)=>(leftOf es seen).size|_,_=>0
theorem leftW_eq {W:World} {r b:Nat} {enc:α→Value} {l:List (α×Value)} {seen:Array Nat} (hi:IterB W r b l.length seen) (h:MapB W b enc l):leftW W r b=(leftOf (entriesOf enc l) seen).size:=by
 unfold leftW
 rw[show W.heap[r]?=_ from hi,show W.heap[b]?=_ from h]
/-- The next entry, whichever the tape says. -/
theorem run_next_map_ {W:World} {r b:Nat} {enc:α→Value} {l:List (α×Value)} {seen:Array Nat} (hi:IterB W r b l.length seen) (h:MapB W b enc l):
 ((∀i,i<l.length→seen.contains i=true)∧∀ty,(Instr.next (.pointer (some ⟨r,0,none⟩)) false ty).run P W= .ok (.tuple #[.bool false]) W)∨
 ∃i,∃hl:i<l.length,seen.contains i=false∧∃W',(∀ty,(Instr.next (.pointer (some ⟨r,0,none⟩)) false ty).run P W= .ok (.tuple #[.bool true,enc l[i].1,l[i].2]) W')∧
  IterB W' r b l.length (seen.push i)∧MapB W' b enc l∧W.grownBy W' (some r)∧W'.heap.size=W.heap.size∧leftW W' r b<leftW W r b:=by
 have hold:∀x∈(entriesOf enc l).toList,x.born<l.length:=fun x hx=>by
  obtain⟨i,hi,rfl⟩:=mem_entries hx
  exact hi
 have hrb:r≠b:=fun e=>by
  have h1:W.heap[r]?=_:=hi
  have h2:W.heap[b]?=_:=h
  rw[e,h2]at h1
  cases h1
 have hbl:=h.lt
 have hrl:r<W.heap.size:=(Array.getElem?_eq_some_iff.1 hi).1
 rcases run_next_at (P:=P) W 0 r b l.length l.length seen (entriesOf enc l) l.length hi h hold (Nat.le_refl _)with ⟨h0,hrun⟩|⟨e,he,w1,hw1,hrun⟩
 ·refine .inl ⟨fun i hi'=>?_,fun _=>hrun⟩
  cases hc:seen.contains i with
  |true=>rfl
  |false=>
   exfalso
   have hmem:({ key:=enc l[i].1,val:=l[i].2,born:=i }:MapEntry)∈(leftOf (entriesOf enc l) seen).toList:=by
    unfold leftOf
    rw[Array.mem_toList_iff,Array.mem_filter]
    exact⟨Array.mem_toList_iff.1 (entries_at hi'),by rw[hc];rfl⟩
   have:=List.length_pos_of_mem hmem
   rw[Array.length_toList]at this
   omega
 ·obtain⟨h1,h2⟩:=mem_left he
  obtain⟨i,hil,rfl⟩:=mem_entries h1
  have hs1:w1.heap=W.heap:=by rcases hw1 with rfl|rfl<;>rfl
  have hI:IterB (setBlock w1 r (.mapIter (some b) l.length (seen.push i) l.length)) r b l.length (seen.push i):=by
   unfold IterB setBlock
   simp[hs1,hrl]
  have hM:MapB (setBlock w1 r (.mapIter (some b) l.length (seen.push i) l.length)) b enc l:=by
   refine h.kept ?_
   unfold setBlock
   simp[hs1,hrb]
  refine .inr ⟨i,hil,h2,_,fun _=>hrun,hI,hM,?_,by simp[setBlock,hs1],?_⟩
  ·refine⟨?_,?_,?_,by simp[setBlock,hs1],fun k hk hne=>?_⟩
   ·rcases hw1 with rfl|rfl<;>rfl
   ·rcases hw1 with rfl|rfl<;>rfl
   ·rcases hw1 with rfl|rfl<;>rfl
   ·have:r≠k:=fun e=>hne (by rw[e])
    simp[setBlock,hs1,this]
  ·rw[leftW_eq hI hM,leftW_eq hi h]
   exact left_shrinks (entriesOf enc l) seen _ he
theorem run_entry_map_ {W:World} {r b:Nat} {enc:α→Value} {l:List (α×Value)} {seen:Array Nat} {i:Nat} (hi:IterB W r b l.length (seen.push i)) (h:MapB W b enc l) (hl:i<l.length):
 (Instr.entry (.pointer (some ⟨r,0,none⟩))).run P W= .ok (.tuple #[enc l[i].1,l[i].2]) W:=by
 refine run_entry_at W r b l.length seen (entriesOf enc l) l.length { key:=enc l[i].1,val:=l[i].2,born:=i } hi h (entries_at hl) ?_
 have:(entriesOf enc l).toList.map (·.born)=List.range l.length:=by
  unfold entriesOf
  simp only[List.map_map]
  rw[show (MapEntry.born∘entF enc)=Prod.snd from rfl,List.zipIdx_map_snd]
  exact List.range_eq_range'.symm
 rw[this]
 exact List.nodup_range
end Go.Proofs.YtpkeacnacjnlcaaGreat
namespace Go.Proofs.YtpkeacnacjnlcaaGreat
open Go.RowKit Go.Lib
def encE (e:Ed):Value:= .agg #[.int .i64 e.a.x,.int .i64 e.a.y,.int .i64 e.b.x,.int .i64 e.b.y]
theorem check_int (d:Nat) (em:Bool) (z:Int) (w:World):Sem.run Tryz.prog (Instr.checkKey em (d+1) 3 (.int .i64 z)) w= .ok () w:=by
 unfold Instr.checkKey
 simp[run_underlying Tryz.underlying3]
theorem check_pt (d:Nat) (em:Bool) (a b:Int) (w:World):Sem.run Tryz.prog (Instr.checkKey em (d+2) 23 (.agg #[.int .i64 a,.int .i64 b])) w= .ok () w:=by
 have a3:=Tryz.isAgg3
 unfold Instr.checkKey
 simp[run_underlying Tryz.underlying23,part,a3,check_int]
theorem check_ed (d:Nat) (em:Bool) (e:Ed) (w:World):Sem.run Tryz.prog (Instr.checkKey em (d+3) 76 (encE e)) w= .ok () w:=by
 have a4:=Tryz.isAgg23
 have z4:=Tryz.sizeOf23
 unfold Instr.checkKey encE
 simp[run_underlying Tryz.underlying76,part,a4,z4,check_pt]
theorem eq_ed (d:Nat) (e f:Ed) (w:World):Sem.run Tryz.prog (Op.equalIn (d+3) 76 (encE e) (encE f)) w= .ok (decide (e=f)) w:=by
 have hS:Tryz.prog.underlying 76=some (.struct (Tryz.prog.fieldsOf 76)):=by kernel_rfl
 have hp:Tryz.prog.stoodInHeld 76=false:=by kernel_rfl
 have a4:=Tryz.isAgg23
 have z4:=Tryz.sizeOf23
 obtain⟨⟨x1,x2⟩,⟨x3,x4⟩⟩:=e
 obtain⟨⟨y1,y2⟩,⟨y3,y4⟩⟩:=f
 unfold encE
 rw[show d+3=(d+2)+1 from rfl,run_equalIn_agg w (d+2) 76 _ _ hS hp]
 simp only[Program.fieldsOf,Tryz.underlying76]
 go_simp
 by_cases h1:x1=y1<;>by_cases h2:x2=y2<;>by_cases h3:x3=y3<;>by_cases h4:x4=y4<;>simp[h1,h2,h3,h4]
theorem same_ed (n:Nat) (e:Ed):Instr.sameBits (n+1) (encE e) (encE e)=true:=by
 unfold encE
 simp[Instr.sameBits]
theorem edKeyW:WideFits Tryz.prog 76 encE where
 wide:=by kernel_rfl
 eq e f w:=eq_ed 9997 e f w
 check em e w:=check_ed 9997 em e w
 same e:=same_ed 9999 e
theorem edKey:KeyFits Tryz.prog 76 encE:=edKeyW.key
theorem eqGuard_ed (op:BinOp) (a b:Operand) (e f:Ed) (w:World):Sem.run Tryz.prog (eqGuard op 76 a b (encE e) (encE f)) w= .ok () w:=run_eqGuard_agg w op 76 a b _ _ (by kernel_rfl)
theorem eqEd_runs (op:BinOp) (a b:Operand) (e f:Ed) (w:World):Sem.run Tryz.prog (binOp .eql 76 (encE e) (encE f)) w= .ok (.bool (decide (e=f))) w∧Sem.run Tryz.prog (eqGuard op 76 a b (encE e) (encE f)) w= .ok () w:=by
 refine⟨?_,eqGuard_ed op a b e f w⟩
 have h:=eq_ed 9997 e f w
 unfold encE at *
 rw[run_eql_struct,show(10000:Nat)=9997+3 from rfl,h]
 rfl
end Go.Proofs.YtpkeacnacjnlcaaGreat
namespace Go.Proofs.YtpkeacnacjnlcaaGreat
open Go.RowKit
def Marks (B:Nat) (Ds:List Nat) (w:World):Prop:=Ds.Nodup∧∀D∈Ds,B≤D∧w.heap[D]?=some (.deferred (some []))
def marksL (Ds:List Nat):List Deferred:=Ds.map fun D=>{ target:= .collected D,args:=#[] }
theorem Marks.nil (B:Nat) (w:World):Marks B [] w:=⟨List.nodup_nil,fun D h=>by simp at h⟩
theorem Marks.kept {B:Nat} {Ds:List Nat} {w w':World} (h:Marks B Ds w) (hk:∀D∈Ds,w'.heap[D]?=w.heap[D]?):Marks B Ds w':=⟨h.1,fun D hD=>⟨(h.2 D hD).1,(hk D hD).trans (h.2 D hD).2⟩⟩
theorem Marks.lt {B:Nat} {Ds:List Nat} {w:World} (h:Marks B Ds w) {D:Nat} (hD:D∈Ds):D<w.heap.size:=(Array.getElem?_eq_some_iff.1 (h.2 D hD).2).1
theorem Marks.cons {B:Nat} {Ds:List Nat} {w:World} (h:Marks B Ds w) {D:Nat} (hB:B≤D) (hn:D∉Ds) (hd:w.heap[D]?=some (.deferred (some []))):Marks B (D::Ds) w:=
 ⟨List.nodup_cons.2 ⟨hn,h.1⟩,fun E hE=>by
   rcases List.mem_cons.1 hE with rfl|hE
   ·exact⟨hB,hd⟩
   ·exact h.2 E hE⟩
theorem Marks.on {B:Nat} {Ds:List Nat} {w w':World} (h:Marks B Ds w) (hb:Below w.heap.size w w'):Marks B Ds w':=h.kept fun _ hD=>hb.block _ (h.lt hD)
theorem leaves_marks {F:Fence} {n:Nat} {P:Program} {fn:Func} {tmps:Array Value} {R:Ending→World→Prop} {B:Nat}:∀(Ds:List Nat) (w:World),Marks B Ds w→B≤w.heap.size→
 (∀w',Below B w w'→(∀i,i∉Ds→w'.heap[i]?=w.heap[i]?)→LeavesInM F n P fn tmps R [] .returning w')→LeavesInM F n P fn tmps R (marksL Ds) .returning w
 |[],w,_,_,h=>h w (Below.refl _ _) fun _ _=>rfl
 |D::Ds,w,hm,hB,h=>by
  obtain⟨hBD,hd⟩:=hm.2 D (by simp)
  obtain⟨hn,hnd⟩:=List.nodup_cons.1 hm.1
  have hg:=grownBy_putObj' w D (.deferred none)
  have hb:Below B w (w.putObj D (.deferred none)):=(Below.refl B w).grown hg hB (fun k e=>by cases e;exact hBD)
  have hk:∀i,i≠D→(w.putObj D (.deferred none)).heap[i]?=w.heap[i]?:=fun i hi=>World.putObj_heap_other hi
  refine⟨by simp,.inl ⟨D,_,rfl,run_takeDeferred hd,?_⟩⟩
  refine leaves_marks Ds _ ⟨hnd,fun E hE=>⟨(hm.2 E (by simp[hE])).1,(hk E (fun e=>hn (by rw[←e];exact hE))).trans (hm.2 E (by simp[hE])).2⟩⟩ (Nat.le_trans hB hg.size) fun w' hb' hk'=>?_
  exact h w' (hb.trans hb') fun i hi=>(hk' i (fun h'=>hi (by simp[h']))).trans (hk i (fun e=>hi (by simp[e])))
theorem marks_box {B:Nat} {Ds:List Nat} {w:World} (h:Marks B Ds w) {g:Nat} {t:TypeId} {v:Value} (b:Boxed w g t v) {D:Nat} (hD:D∈Ds):D≠g:=fun e=>by
 have h1:=(h.2 D hD).2
 rw[e,show w.heap[g]?=_ from b]at h1
 cases h1
theorem mapB_from {α β:Type} {B b:Nat} (hb:b<B) (enc:α→Value) (f:β→List (α×Value)):OwnFrom B (fun s W=>MapB W b enc (f s)):=fun s X Y row hs hg hr=>
 MapB.kept hs (hg.block b (MapB.lt hs) (fun e=>by have:=(hr b e.symm).1;omega))
theorem marks_from {β:Type} {B B0:Nat} {Ds:List Nat} (h:∀D∈Ds,D<B):OwnFrom B (fun (_:β) W=>Marks B0 Ds W):=fun _ X Y row hs hg hr=>
 Marks.kept hs fun D hD=>hg.block D (Marks.lt hs hD) (fun e=>by have:=(hr D e.symm).1;have:=h D hD;omega)
end Go.Proofs.YtpkeacnacjnlcaaGreat
namespace Go.Proofs.YtpkeacnacjnlcaaGreat
open Go.Shelf
def sortEd_ren:Go.Shelf.Ren:=⟨fun|6=>145|15=>85|14=>180|28=>130|29=>131|20=>197|21=>198|22=>199|23=>200|24=>201|25=>202|26=>203|27=>204|46=>213|47=>168|48=>169|49=>214|50=>215|57=>218|n=>n,fun|22=>71|24=>76|25=>185|3=>3|39=>127|0=>0|53=>121|55=>35|4=>4|46=>166|45=>165|50=>170|5=>5|9=>9|66=>198|70=>202|76=>217|77=>218|n=>n,fun|n=>n⟩
theorem sortEd:Go.Proofs.SlLaysF0.n6 Tryz.prog sortEd_ren:={
 mixed:=by kernel_rfl
 f6:=⟨Tryz.f145.name,by decide,Tryz.func145.trans (congrArg some (by kernel_rfl))⟩
 f14:=⟨Tryz.f180.name,by decide,Tryz.func180.trans (congrArg some (by kernel_rfl))⟩
 f15:=Tryz.func85.trans (congrArg some (by kernel_rfl))
 f20:=⟨Tryz.f197.name,by decide,Tryz.func197.trans (congrArg some (by kernel_rfl))⟩
 f21:=⟨Tryz.f198.name,by decide,Tryz.func198.trans (congrArg some (by kernel_rfl))⟩
 f22:=⟨Tryz.f199.name,by decide,Tryz.func199.trans (congrArg some (by kernel_rfl))⟩
 f23:=⟨Tryz.f200.name,by decide,Tryz.func200.trans (congrArg some (by kernel_rfl))⟩
 f24:=⟨Tryz.f201.name,by decide,Tryz.func201.trans (congrArg some (by kernel_rfl))⟩
 f25:=⟨Tryz.f202.name,by decide,Tryz.func202.trans (congrArg some (by kernel_rfl))⟩
 f26:=⟨Tryz.f203.name,by decide,Tryz.func203.trans (congrArg some (by kernel_rfl))⟩
 f27:=⟨Tryz.f204.name,by decide,Tryz.func204.trans (congrArg some (by kernel_rfl))⟩
 f28:=Tryz.func130.trans (congrArg some (by kernel_rfl))
 f29:=Tryz.func131.trans (congrArg some (by kernel_rfl))
 f46:=⟨Tryz.f213.name,by decide,Tryz.func213.trans (congrArg some (by kernel_rfl))⟩
 f47:=Tryz.func168.trans (congrArg some (by kernel_rfl))
 f48:=Tryz.func169.trans (congrArg some (by kernel_rfl))
 f49:=⟨Tryz.f214.name,by decide,Tryz.func214.trans (congrArg some (by kernel_rfl))⟩
 f50:=⟨Tryz.f215.name,by decide,Tryz.func215.trans (congrArg some (by kernel_rfl))⟩
 f57:=⟨Tryz.f218.name,by decide,Tryz.func218.trans (congrArg some (by kernel_rfl))⟩
 t0:=Tryz.underlying0
 a0:=Tryz.isAgg0
 z0:=Tryz.sizeOf0
 v0:=Tryz.zeroValue0
 t3:=Tryz.underlying3
 a3:=Tryz.isAgg3
 z3:=Tryz.sizeOf3
 v3:=Tryz.zeroValue3
 t4:=Tryz.underlying4
 a4:=Tryz.isAgg4
 z4:=Tryz.sizeOf4
 v4:=Tryz.zeroValue4
 t5:=Tryz.underlying5
 a5:=Tryz.isAgg5
 z5:=Tryz.sizeOf5
 v5:=Tryz.zeroValue5
 t9:=Tryz.underlying9
 a9:=Tryz.isAgg9
 z9:=Tryz.sizeOf9
 v9:=Tryz.zeroValue9
 t22:=Tryz.underlying71
 a22:=Tryz.isAgg71
 z22:=Tryz.sizeOf71
 v22:=Tryz.zeroValue71
 t25:=Tryz.underlying185
 a25:=Tryz.isAgg185
 z25:=Tryz.sizeOf185
 v25:=Tryz.zeroValue185
 t39:=Tryz.underlying127
 a39:=Tryz.isAgg127
 z39:=Tryz.sizeOf127
 v39:=Tryz.zeroValue127
 t45:=Tryz.underlying165
 a45:=Tryz.isAgg165
 z45:=Tryz.sizeOf165
 v45:=Tryz.zeroValue165
 t46:=Tryz.underlying166
 a46:=Tryz.isAgg166
 z46:=Tryz.sizeOf166
 v46:=Tryz.zeroValue166
 t50:=Tryz.underlying170
 a50:=Tryz.isAgg170
 z50:=Tryz.sizeOf170
 v50:=Tryz.zeroValue170
 t53:=Tryz.underlying121
 a53:=Tryz.isAgg121
 z53:=Tryz.sizeOf121
 v53:=Tryz.zeroValue121
 t55:=Tryz.underlying35
 a55:=Tryz.isAgg35
 z55:=Tryz.sizeOf35
 v55:=Tryz.zeroValue35
 t66:=Tryz.underlying198
 a66:=Tryz.isAgg198
 z66:=Tryz.sizeOf198
 v66:=Tryz.zeroValue198
 t70:=Tryz.underlying202
 a70:=Tryz.isAgg202
 z70:=Tryz.sizeOf202
 v70:=Tryz.zeroValue202
 t76:=Tryz.underlying217
 a76:=Tryz.isAgg217
 z76:=Tryz.sizeOf217
 v76:=Tryz.zeroValue217
 t77:=Tryz.underlying218
 a77:=Tryz.isAgg218
 z77:=Tryz.sizeOf218
 v77:=Tryz.zeroValue218 }
end Go.Proofs.YtpkeacnacjnlcaaGreat
namespace Go.Proofs.YtpkeacnacjnlcaaGreat
open Go.RowKit Go.Shelf Go.Sort
instance:Inhabited Ed:=⟨⟨⟨0,0⟩,⟨0,0⟩⟩⟩
def cmpE (e f:Ed):Int:=orI (ordI e.a f.a) (ordI e.b f.b)
theorem ordI_neg' {a b:Pt}:ordI a b<0↔a.x<b.x∨(a.x=b.x∧a.y<b.y):=by
 unfold ordI orI
 rcases cmpI_cases a.x b.x with ⟨h,e⟩|⟨h,e⟩|⟨h,e⟩<;>rcases cmpI_cases a.y b.y with ⟨h',e'⟩|⟨h',e'⟩|⟨h',e'⟩<;>rw[e,e']<;>simp<;>omega
theorem ordI_zero {a b:Pt}:ordI a b=0↔a.x=b.x∧a.y=b.y:=by
 rw[ordI_eq]
 obtain⟨ax,ay⟩:=a
 obtain⟨bx,by_⟩:=b
 simp
theorem cmpE_neg {e f:Ed}:cmpE e f<0↔(e.a.x<f.a.x∨(e.a.x=f.a.x∧e.a.y<f.a.y))∨((e.a.x=f.a.x∧e.a.y=f.a.y)∧(e.b.x<f.b.x∨(e.b.x=f.b.x∧e.b.y<f.b.y))):=by
 rw[←ordI_neg',←ordI_zero,←ordI_neg' (a:=e.b)]
 unfold cmpE orI
 by_cases h:ordI e.a f.a=0
 ·simp[h]
 ·simp[h]
theorem edge_swo:SWO (ltOf cmpE) where
 irrefl x:=by unfold ltOf;rw[decide_eq_false_iff_not,cmpE_neg];omega
 trans x y z h1 h2:=by
  unfold ltOf at *
  rw[decide_eq_true_iff,cmpE_neg]at *
  omega
 ntrans x y z h1 h2:=by
  unfold ltOf at *
  rw[decide_eq_false_iff_not,cmpE_neg]at *
  omega
def encEL (e:Ed):List Value:=[.int .i64 e.a.x,.int .i64 e.a.y,.int .i64 e.b.x,.int .i64 e.b.y]
def edsV (l:List Ed):List Value:=l.flatMap encEL
theorem edsV_length (l:List Ed):(edsV l).length=l.length*4:=by
 induction l with
 |nil=>rfl
 |cons e l ih=>unfold edsV at *;rw[List.flatMap_cons,List.length_append,ih];simp[encEL];omega
theorem edsV_append (a b:List Ed):edsV (a++b)=edsV a++edsV b:=by simp[edsV]
theorem edsV_one (l:List Ed):∀u∈edsV l,u.oneCell'=true:=by
 intro u hu
 unfold edsV encEL at hu
 simp only[List.mem_flatMap]at hu
 obtain⟨e,-,he⟩:=hu
 simp at he
 rcases he with rfl|rfl|rfl|rfl<;>rfl
theorem edsV_at {l:List Ed} {j:Nat} {u:Value} (h:(edsV l)[j]?=some u):∃hk:j/4<l.length,u=(encEL l[j/4])[j%4]!:=by
 induction l generalizing j with
 |nil=>simp[edsV]at h
 |cons e l ih=>
  have hc:edsV (e::l)=encEL e++edsV l:=rfl
  rw[hc]at h
  by_cases hj:j<4
  ·rw[List.getElem?_append_left (by simp[encEL];omega)]at h
   have h0:j/4=0:=by omega
   have h1:j%4=j:=by omega
   refine⟨by simp[h0],?_⟩
   simp only[h0,h1,List.getElem_cons_zero]
   rw[List.getElem!_eq_getElem?_getD,h]
   rfl
  ·rw[List.getElem?_append_right (by simp[encEL];omega)]at h
   have hl:(encEL e).length=4:=rfl
   rw[hl]at h
   obtain⟨hk,hu⟩:=ih h
   have e1:j/4=(j-4)/4+1:=by omega
   have e2:j%4=(j-4)%4:=by omega
   refine⟨by simp;omega,?_⟩
   simp only[e1,e2,List.getElem_cons_succ]
   exact hu
theorem holdsE_own {w:World} {base:Nat} {t:TypeId} {g n cap:Nat} {d:List Ed} (h:w.ownsRow base t 4 (.slice (some ⟨g,0,none⟩) n cap) n (edsV d)):HoldsK encEL 4 w g 0 d.toArray:=fun j hj=>by
 rw[size_flatK]at hj
 have hl:d.length*4=n*4:=by rw[←edsV_length];exact h.1
 have hj':j<n*4:=by simp at hj;omega
 refine⟨?_,?_⟩
 ·rw[Nat.zero_add,h.cellAt j hj',get_flatK _ _ _ _ hj]
  have hl2:j<(edsV d).length:=by rw[h.1];exact hj'
  obtain⟨hk,hu⟩:=edsV_at (List.getElem?_eq_getElem hl2)
  rw[List.getElem?_eq_getElem hl2,hu]
  simp[hk]
 ·rw[Nat.zero_add]
  exact h.frozenAt j
theorem reads_holdsE {w:World} {g:Nat} {d:List Ed} (hg:g<w.heap.size) (h:HoldsK encEL 4 w g 0 d.toArray):Reads w w.heap.size 4 (some ⟨g,0,none⟩) d.length (edsV d):=by
 refine⟨edsV_length d,fun _=>⟨_,rfl,hg,fun j u hu=>?_⟩⟩
 obtain⟨hk,rfl⟩:=edsV_at hu
 rw[add_row]
 have:=(h.cell (i:=j/4) (c:=j%4) (by simpa using hk) (by omega)).1
 rw[show 0+j/4*4+j%4=j by omega]at this
 rw[this]
 simp[hk]
theorem grownBy_sortE {w:World} {g n:Nat} {os:Array Obj} (d:Array Ed):w.grownBy (sortWorldK encEL 4 w g 0 n d os) (some g):=by
 refine⟨rfl,rfl,rfl,by simp[sortWorldK,putRowK,grow,Sort.ahead],fun k hk hne=>?_⟩
 unfold sortWorldK
 rw[heap_grow_old _ _ (by simpa[putRowK,Sort.ahead]using hk)]
 have:g≠k:=fun e=>hne (by rw[e])
 simp[putRowK,putRow,mapBlock,Sort.ahead,Array.getElem?_modify,this]
theorem Grows.trans {a b c:World} (h:Grows a b) (k:Grows b c):Grows a c:=by
 obtain⟨q,os,rfl⟩:=h
 obtain⟨q',os',rfl⟩:=k
 refine⟨q+q',os++os',?_⟩
 rw[←grow_grow,←World.drewN_drewN]
 rfl
theorem Grows.cell {a b:World} (h:Grows a b) {p:Addr} {v:Value} (hc:a.cell? p=some v):b.cell? p=some v:=by
 obtain⟨q,os,rfl⟩:=h
 have hp:p.block<a.heap.size:=World.block_lt_of_cell? a p hc
 rw[←hc]
 exact World.cell?_of_block (heap_grow_old _ _ hp)
set_option maxRecDepth 100000 in
set_option maxHeartbeats 1600000 in
theorem clean1_grows (e f:Ed) (w:World):
 Calls Tryz.prog 146 #[.agg #[.int .i64 e.a.x,.int .i64 e.a.y,.int .i64 e.b.x,.int .i64 e.b.y],.agg #[.int .i64 f.a.x,.int .i64 f.a.y,.int .i64 f.b.x,.int .i64 f.b.y]] w fun r w'=>r= .returned (.int .i64 (cmpE e f))∧Grows w w':=by
 have b1:Blk ((w.alloc (.cells #[.int .i64 e.a.x,.int .i64 e.a.y,.int .i64 e.b.x,.int .i64 e.b.y] 76)).alloc (.cells #[.int .i64 f.a.x,.int .i64 f.a.y,.int .i64 f.b.x,.int .i64 f.b.y] 76)) w.heap.size 76 #[.int .i64 e.a.x,.int .i64 e.a.y,.int .i64 e.b.x,.int .i64 e.b.y]:=Blk.alloc (Blk.new w _ _) _
 have b2:=Blk.new (w.alloc (.cells #[.int .i64 e.a.x,.int .i64 e.a.y,.int .i64 e.b.x,.int .i64 e.b.y] 76)) 76 #[.int .i64 f.a.x,.int .i64 f.a.y,.int .i64 f.b.x,.int .i64 f.b.y]
 rw[World.size_alloc]at b2
 have hG:Grows w ((w.alloc (.cells #[.int .i64 e.a.x,.int .i64 e.a.y,.int .i64 e.b.x,.int .i64 e.b.y] 76)).alloc (.cells #[.int .i64 f.a.x,.int .i64 f.a.y,.int .i64 f.b.x,.int .i64 f.b.y] 76)):=((Grows.refl _).alloc _).alloc _
 have kA:=fun V=>order_grows e.a f.a V
 have kB:=fun V=>order_grows e.b f.b V
 have HC:Hid (cmpE e f=orI (ordI e.a f.a) (ordI e.b f.b)):=rfl
 unfold ptV at kA kB
 generalize ordI e.a f.a=o1 at *
 generalize ordI e.b f.b=o2 at *
 go_enter Tryz.func146,Tryz.ntmps146
 go_wp2_with fail
 obtain⟨W1,hW1⟩:∃W1,W1=(w.alloc (.cells #[.int .i64 e.a.x,.int .i64 e.a.y,.int .i64 e.b.x,.int .i64 e.b.y] 76)).alloc (.cells #[.int .i64 f.a.x,.int .i64 f.a.y,.int .i64 f.b.x,.int .i64 f.b.y] 76):=⟨_,rfl⟩
 rw[←hW1]at b1 b2 hG
 rw[←hW1]
 clear hW1
 have hP0:W1.drew.cell? ⟨w.heap.size,0,none⟩=some (.int .i64 e.a.x)∧W1.drew.cell? ⟨w.heap.size,1,none⟩=some (.int .i64 e.a.y)∧W1.drew.cell? ⟨w.heap.size,2,none⟩=some (.int .i64 e.b.x)∧W1.drew.cell? ⟨w.heap.size,3,none⟩=some (.int .i64 e.b.y)∧W1.drew.cell? ⟨w.heap.size+1,0,none⟩=some (.int .i64 f.a.x)∧W1.drew.cell? ⟨w.heap.size+1,1,none⟩=some (.int .i64 f.a.y)∧W1.drew.cell? ⟨w.heap.size+1,2,none⟩=some (.int .i64 f.b.x)∧W1.drew.cell? ⟨w.heap.size+1,3,none⟩=some (.int .i64 f.b.y)∧Grows W1 W1.drew:=⟨by rw[Blk.cell b1.drew 0];rfl,by rw[Blk.cell b1.drew 1];rfl,by rw[Blk.cell b1.drew 2];rfl,by rw[Blk.cell b1.drew 3];rfl,by rw[Blk.cell b2.drew 0];rfl,by rw[Blk.cell b2.drew 1];rfl,by rw[Blk.cell b2.drew 2];rfl,by rw[Blk.cell b2.drew 3];rfl,(Grows.refl _).drew⟩
 have hStep:∀V V',(V.cell? ⟨w.heap.size,0,none⟩=some (.int .i64 e.a.x)∧V.cell? ⟨w.heap.size,1,none⟩=some (.int .i64 e.a.y)∧V.cell? ⟨w.heap.size,2,none⟩=some (.int .i64 e.b.x)∧V.cell? ⟨w.heap.size,3,none⟩=some (.int .i64 e.b.y)∧V.cell? ⟨w.heap.size+1,0,none⟩=some (.int .i64 f.a.x)∧V.cell? ⟨w.heap.size+1,1,none⟩=some (.int .i64 f.a.y)∧V.cell? ⟨w.heap.size+1,2,none⟩=some (.int .i64 f.b.x)∧V.cell? ⟨w.heap.size+1,3,none⟩=some (.int .i64 f.b.y)∧Grows W1 V)→Grows V V'→(V'.cell? ⟨w.heap.size,0,none⟩=some (.int .i64 e.a.x)∧V'.cell? ⟨w.heap.size,1,none⟩=some (.int .i64 e.a.y)∧V'.cell? ⟨w.heap.size,2,none⟩=some (.int .i64 e.b.x)∧V'.cell? ⟨w.heap.size,3,none⟩=some (.int .i64 e.b.y)∧V'.cell? ⟨w.heap.size+1,0,none⟩=some (.int .i64 f.a.x)∧V'.cell? ⟨w.heap.size+1,1,none⟩=some (.int .i64 f.a.y)∧V'.cell? ⟨w.heap.size+1,2,none⟩=some (.int .i64 f.b.x)∧V'.cell? ⟨w.heap.size+1,3,none⟩=some (.int .i64 f.b.y)∧Grows W1 V'):=fun V V' ⟨h1,h2,h3,h4,h5,h6,h7,h8,h9⟩ hb=>⟨hb.cell h1,hb.cell h2,hb.cell h3,hb.cell h4,hb.cell h5,hb.cell h6,hb.cell h7,hb.cell h8,h9.trans hb⟩
 have hStepA:∀V o,(V.cell? ⟨w.heap.size,0,none⟩=some (.int .i64 e.a.x)∧V.cell? ⟨w.heap.size,1,none⟩=some (.int .i64 e.a.y)∧V.cell? ⟨w.heap.size,2,none⟩=some (.int .i64 e.b.x)∧V.cell? ⟨w.heap.size,3,none⟩=some (.int .i64 e.b.y)∧V.cell? ⟨w.heap.size+1,0,none⟩=some (.int .i64 f.a.x)∧V.cell? ⟨w.heap.size+1,1,none⟩=some (.int .i64 f.a.y)∧V.cell? ⟨w.heap.size+1,2,none⟩=some (.int .i64 f.b.x)∧V.cell? ⟨w.heap.size+1,3,none⟩=some (.int .i64 f.b.y)∧Grows W1 V)→((V.alloc o).cell? ⟨w.heap.size,0,none⟩=some (.int .i64 e.a.x)∧(V.alloc o).cell? ⟨w.heap.size,1,none⟩=some (.int .i64 e.a.y)∧(V.alloc o).cell? ⟨w.heap.size,2,none⟩=some (.int .i64 e.b.x)∧(V.alloc o).cell? ⟨w.heap.size,3,none⟩=some (.int .i64 e.b.y)∧(V.alloc o).cell? ⟨w.heap.size+1,0,none⟩=some (.int .i64 f.a.x)∧(V.alloc o).cell? ⟨w.heap.size+1,1,none⟩=some (.int .i64 f.a.y)∧(V.alloc o).cell? ⟨w.heap.size+1,2,none⟩=some (.int .i64 f.b.x)∧(V.alloc o).cell? ⟨w.heap.size+1,3,none⟩=some (.int .i64 f.b.y)∧Grows W1 (V.alloc o)):=fun V o h=>hStep V _ h ((Grows.refl _).alloc o)
 have HLST:=Lib.hid (show ∀V,(V.cell? ⟨w.heap.size,0,none⟩=some (.int .i64 e.a.x)∧V.cell? ⟨w.heap.size,1,none⟩=some (.int .i64 e.a.y)∧V.cell? ⟨w.heap.size,2,none⟩=some (.int .i64 e.b.x)∧V.cell? ⟨w.heap.size,3,none⟩=some (.int .i64 e.b.y)∧V.cell? ⟨w.heap.size+1,0,none⟩=some (.int .i64 f.a.x)∧V.cell? ⟨w.heap.size+1,1,none⟩=some (.int .i64 f.a.y)∧V.cell? ⟨w.heap.size+1,2,none⟩=some (.int .i64 f.b.x)∧V.cell? ⟨w.heap.size+1,3,none⟩=some (.int .i64 f.b.y)∧Grows W1 V)→Grows W1 V from fun V h=>h.2.2.2.2.2.2.2.2)
 have HG:=Lib.hid hG
 clear b1 b2 hG
 go_region_held3 (fun V=>V.cell? ⟨w.heap.size,0,none⟩=some (.int .i64 e.a.x)∧V.cell? ⟨w.heap.size,1,none⟩=some (.int .i64 e.a.y)∧V.cell? ⟨w.heap.size,2,none⟩=some (.int .i64 e.b.x)∧V.cell? ⟨w.heap.size,3,none⟩=some (.int .i64 e.b.y)∧V.cell? ⟨w.heap.size+1,0,none⟩=some (.int .i64 f.a.x)∧V.cell? ⟨w.heap.size+1,1,none⟩=some (.int .i64 f.a.y)∧V.cell? ⟨w.heap.size+1,2,none⟩=some (.int .i64 f.b.x)∧V.cell? ⟨w.heap.size+1,3,none⟩=some (.int .i64 f.b.y)∧Grows W1 V)
  (first|with_reducible exact hP0|with_reducible assumption|with_reducible exact hStep _ _ (by assumption) (by assumption)|exact hStepA _ _ (by assumption))
  (first
    |(go_simp;go_at_call 113;(first|with_reducible refine(kA _).mono ?_|with_reducible refine(kB _).mono ?_);rintro r w' ⟨rfl,hb'⟩;try dsimp only)
    |(go_simp;go_at_call 147;(refine (or_any o1 o2 _ 0 _ _ (by simp) (by simp)).mono ?_);rintro r w' ⟨rfl,rfl⟩;try dsimp only))
 all_goals
  clear hP0 hStep hStepA
  have hL:=HLST.out _ (by assumption)
  go_wp2_with fail
  go_ret
  exact⟨by rw[HC.out];rfl,HG.out.trans (by assumption)⟩
theorem cmpE_lays (g size:Nat) (w:World):CmpLays Tryz.prog 146 #[] encEL 4 cmpE g 0 size w:=fun _ _ _ _ x y=>clean1_grows x y _
theorem own_sortE {w:World} {base:Nat} {t:TypeId} {g n cap m:Nat} {d:List Ed} {d':Array Ed} {os:Array Obj} (h:w.ownsRow base t 4 (.slice (some ⟨g,0,none⟩) n cap) n (edsV d)) (hs:d'.size=n)
 (hR:Reads (sortWorldK encEL 4 w g 0 m d' os) (sortWorldK encEL 4 w g 0 m d' os).heap.size 4 (some ⟨g,0,none⟩) d'.toList.length (edsV d'.toList)):
 (sortWorldK encEL 4 w g 0 m d' os).ownsRow base t 4 (.slice (some ⟨g,0,none⟩) n cap) n (edsV d'.toList):=by
 rcases h.2 with ⟨h0,-⟩|⟨g',cap',cur,he,hb,hg,hnc,hcm,hcs,htk⟩
 ·cases h0
 ·cases he
  have hlt:g<w.heap.size:=(Array.getElem?_eq_some_iff.1 hg).1
  have hW:∃cur',(sortWorldK encEL 4 w g 0 m d' os).heap[g]?=some (.cells cur' t (0,0))∧cur'.size=cur.size:=by
   refine⟨putCells id 0 (flatK encEL 4 d') cur,?_,?_⟩
   ·unfold sortWorldK
    rw[heap_grow_old _ _ (by simpa[putRowK,putRow,mapBlock,Sort.ahead]using hlt)]
    simp[putRowK,putRow,mapBlock,Sort.ahead,Array.getElem?_modify,hg,onCells]
   ·simp[putCells]
  obtain⟨cur',h1,h2⟩:=hW
  refine⟨by rw[edsV_length];simp[hs],.inr ⟨g,cap,cur',rfl,hb,h1,hnc,hcm,by rw[h2,hcs],?_⟩⟩
  apply List.ext_getElem?
  intro j
  by_cases hj:j<n*4
  ·rw[List.getElem?_take,if_pos hj,Array.getElem?_toList,←cell_of_row _ g j cur' t (0,0) h1]
   obtain⟨ad,e,-,hc⟩:=hR.2 (by simp;omega)
   cases e
   have hl:j<(edsV d'.toList).length:=by rw[edsV_length];simp[hs];omega
   have:=hc j _ (List.getElem?_eq_getElem hl)
   rw[add_row]at this
   rw[this,List.getElem?_eq_getElem hl]
  ·rw[List.getElem?_eq_none (by simp;omega),List.getElem?_eq_none (by rw[edsV_length];simp[hs];omega)]
theorem perm_listE {d:List Ed} {d':Array Ed} (h:PermIn 0 d.toArray.size d.toArray d'):d'.toList.Perm d∧d'.size=d.length:=by
 obtain⟨h1,-,h2⟩:=h
 refine⟨?_,by simpa using h1⟩
 rw[←h1,Array.extract_size,h1,Array.extract_size]at h2
 simpa using h2
theorem sortEd_any (d:List Ed) (g n cap base:Nat) (w:World) (hown:w.ownsRow base 76 4 (.slice (some ⟨g,0,none⟩) n cap) n (edsV d)) (hn:n≤1048576):
 Calls Tryz.prog 145 #[.slice (some ⟨g,0,none⟩) n cap,.func (.func 146) #[] #[]] w fun e w'=>e= .returned (.tuple #[])∧∃d':List Ed,d'.Perm d∧d'.Pairwise (fun e f=>¬cmpE f e<0)∧w'.ownsRow base 76 4 (.slice (some ⟨g,0,none⟩) n cap) n (edsV d')∧w.grownBy w' (some g):=by
 have hl:d.length=n:=by have h:=hown.1;rw[edsV_length]at h;omega
 have hg:g<w.heap.size:=(hown.lt g rfl).2
 have hH:=holdsE_own hown
 have eg:∀args w,(callFunc 146 args).run Tryz.prog w= .ok (.enter 146 args) w:=enters_of Tryz.func146 (by kernel_rfl) rfl
 have hcon:=AnyQ.slices_SortFunc sortEd 4 Tryz.isAgg76 Tryz.sizeOf76 encEL (fun _=>rfl) (fun x v hv=>by simp[encEL]at hv;rcases hv with rfl|rfl|rfl|rfl<;>rfl) cmpE edge_swo 146 #[] g 0 cap d.toArray w eg (cmpE_lays g d.toArray.size w) hH hg (by simp;omega)
 change Calls Tryz.prog 145 _ _ _ at hcon
 rw[List.size_toArray,hl]at hcon
 refine hcon.mono ?_
 rintro e w' ⟨he,d',m,os,hp,hsd,rfl⟩
 rw[←hl,←List.size_toArray]at hp hsd
 obtain⟨h1,h2⟩:=perm_listE hp
 have hSW:SWK encEL 4 w g 0 d' (sortWorldK encEL 4 w g 0 m d' os):=⟨m,os,rfl⟩
 have hH':=hSW.holds hg hH (by simpa using h2)
 have hR:=reads_holdsE (d:=d'.toList) (hSW.lt hg) (by simpa using hH')
 refine⟨he,d'.toList,h1,?_,?_,grownBy_sortE d'⟩
 ·rw[List.pairwise_iff_getElem]
  intro i j hi hj hij
  have:=hsd i j (Nat.zero_le _) hij (by simpa[h2]using hj)
  unfold ltOf at this
  rw[decide_eq_false_iff_not]at this
  rw[getElem!_pos d' j (by simpa using hj),getElem!_pos d' i (by simpa using hi)]at this
  simpa using this
 ·have:=own_sortE (m:=m) (os:=os) hown (by rw[h2,hl]) hR
  exact this
end Go.Proofs.YtpkeacnacjnlcaaGreat
