/- ref02.Least: the walk. -/
import Derived.Test.YtpkeacnacjnlcaaGreatK13
namespace Go.Proofs.YtpkeacnacjnlcaaGreat
open Go.RowKit
theorem less_ord (a b:Pt):lessB a b=decide (ordI a b<0):=by
 unfold lessB ordI orI
 rw[decide_eq_decide]
 rcases cmpI_cases a.x b.x with ⟨h,e⟩|⟨h,e⟩|⟨h,e⟩<;>rcases cmpI_cases a.y b.y with ⟨h',e'⟩|⟨h',e'⟩|⟨h',e'⟩<;>rw[e,e']<;>simp<;>omega
theorem leastN_step {xs:List Pt} {m:Nat}:leastN xs (m+1)=if lessB (ptAt xs m) (ptAt xs (leastN xs m))=true then m else leastN xs m:=by
 rw[less_ord,leastN]
 simp only[decide_eq_true_eq]
theorem leastN_le (xs:List Pt) (m:Nat):leastN xs m≤m:=by
 rcases Nat.eq_zero_or_pos m with h|h
 ·subst h;exact Nat.le_refl _
 ·exact Nat.le_of_lt (leastN_lt xs h)
abbrev Hold22 (W V:World) (a1 a2:Addr) (p q:Pt):Prop:=V.cell? a1=some (.int .i64 p.x)∧V.cell? ⟨a1.block,a1.off+1,none⟩=some (.int .i64 p.y)∧V.cell? a2=some (.int .i64 q.x)∧V.cell? ⟨a2.block,a2.off+1,none⟩=some (.int .i64 q.y)∧Below W.heap.size W V
theorem held22 {W V V':World} {a1 a2:Addr} {p q:Pt} (hh:a1.block<W.heap.size∧a2.block<W.heap.size) (hs:V.cell? a1=some (.int .i64 p.x)∧V.cell? ⟨a1.block,a1.off+1,none⟩=some (.int .i64 p.y)∧V.cell? a2=some (.int .i64 q.x)∧V.cell? ⟨a2.block,a2.off+1,none⟩=some (.int .i64 q.y)∧Below W.heap.size W V) (hb:Below V.heap.size V V'):
 V'.cell? a1=some (.int .i64 p.x)∧V'.cell? ⟨a1.block,a1.off+1,none⟩=some (.int .i64 p.y)∧V'.cell? a2=some (.int .i64 q.x)∧V'.cell? ⟨a2.block,a2.off+1,none⟩=some (.int .i64 q.y)∧Below W.heap.size W V':=by
 obtain⟨h1,h2⟩:=hh
 obtain⟨c1,c2,c3,c4,c5⟩:=hs
 have:=c5.size
 exact⟨(hb.cell (p:=a1) (by omega)).trans c1,(hb.cell (p:=⟨a1.block,a1.off+1,none⟩) (by simp only;omega)).trans c2,(hb.cell (p:=a2) (by omega)).trans c3,(hb.cell (p:=⟨a2.block,a2.off+1,none⟩) (by simp only;omega)).trans c4,below_on c5 (Nat.le_refl _) hb⟩
set_option maxRecDepth 100000 in
set_option maxHeartbeats 1600000 in
theorem leastR_any (xs:List Pt) (A:Option Addr) (n cap:Nat) (w:World) (hr:Reads w w.heap.size 2 A n (ptsV xs)) (hn:n≤128):
 Calls Tryz.prog 81 #[.slice A n cap] w fun e w'=>∃A' c,e= .returned (.slice A' n c)∧w'.ownsRow w.heap.size 23 2 (.slice A' n c) n (ptsV (rot (leastN xs n) xs))∧Below w.heap.size w w':=by
 obtain⟨i0,hi0,hz0,hz1,hz2⟩:=info_parts info_pt
 have hl:xs.length=n:=hr.lenPt
 have HR:=Lib.hid (And.intro hr hl)
 clear hr hl
 go_enter Tryz.func81,Tryz.ntmps81
 go_wp2_with fail
 go_loopw [3,4] (fun kv i wr=>∃m:Nat,m≤n∧i= .int .i64 (m:Int)∧kv= .int .i64 (leastN xs m:Int)∧Below w.heap.size w wr) (fun _ i _=>n-(intOf i).toNat)
 case atStart=>exact⟨0,Nat.zero_le _,rfl,rfl,Below.refl _ _⟩
 case round=>
  obtain⟨m,hm,rfl,rfl,hbel⟩:=hrel
  by_cases hlt:m<n
  ·have hlt':(m:Int)<(n:Int):=by omega
   have hkn:leastN xs m<n:=by have:=leastN_le xs m;omega
   have hw1:IntKind.i64.wrap ((m:Int)+1)=(m:Int)+1:=by rw[IntKind.wrap_i64];omega
   have hst:=leastN_step (xs:=xs) (m:=m)
   generalize leastN xs m=k at *
   have hkn':(k:Int)<(n:Int):=by omega
   obtain⟨ad,rfl,-,-,-,-⟩:=HR.out.1.pt hlt
   obtain⟨hbd,p1,p2⟩:=((HR.out.1.below hbel).more hbel.size).ptA hlt
   obtain⟨-,q1,q2⟩:=((HR.out.1.below hbel).more hbel.size).ptA hkn
   have kL:=fun V=>lessR6 (ptAt xs m).x (ptAt xs m).y (ptAt xs k).x (ptAt xs k).y V
   have hP0:Hold22 wr wr.drew (ad.add (m*2)) (ad.add (k*2)) (ptAt xs m) (ptAt xs k):=⟨p1,p2,q1,q2,(Below.refl _ _).drew⟩
   have hltM:(ad.add (m*2)).block<wr.heap.size∧(ad.add (k*2)).block<wr.heap.size:=by simp only[block_of_add];exact⟨hbd,hbd⟩
   have HB:=Lib.hid hbel
   generalize ptAt xs m=P at *
   generalize ptAt xs k=Q at *
   have kL':∀V,Calls Tryz.prog 120 #[.agg #[.int .i64 P.x,.int .i64 P.y],.agg #[.int .i64 Q.x,.int .i64 Q.y]] V fun e w'=>e= .returned (.bool (lessB P Q))∧Below V.heap.size V w':=kL
   clear kL hbel p1 p2 q1 q2 hbd
   generalize lessB P Q=lb at *
   rcases lb with _|_
   all_goals
    have HST:=Lib.hid hst
    clear hst
    go_wp2_with fail
    go_region_held3 (fun V=>V.cell? (ad.add (m*2))=some (.int .i64 P.x)∧V.cell? ⟨(ad.add (m*2)).block,(ad.add (m*2)).off+1,none⟩=some (.int .i64 P.y)∧V.cell? (ad.add (k*2))=some (.int .i64 Q.x)∧V.cell? ⟨(ad.add (k*2)).block,(ad.add (k*2)).off+1,none⟩=some (.int .i64 Q.y)∧Below wr.heap.size wr V)
     (first|with_reducible exact hP0|with_reducible exact held22 hltM (by assumption) (by assumption))
     (first
       |(go_simp;go_at_call 120;(with_reducible refine(kL' _).mono ?_);rintro e w' ⟨rfl,hb'⟩;try dsimp only))
    clear hP0
    obtain⟨-,-,-,-,hbV⟩:=(by assumption:Hold22 wr _ (ad.add (m*2)) (ad.add (k*2)) P Q)
    have HV:=Lib.hid (below_on HB.out (Nat.le_refl _) hbV)
    clear hbV
    go_wp2_with fail
    go_roundw
    case rel=>exact⟨m+1,by omega,by go_num,by rw[HST.out];rfl,HV.out⟩
    case measure=>simp[intOf];omega
  ·have hmn:m=n:=by omega
   subst hmn
   have hkm:0<m→leastN xs m<m:=fun h=>leastN_lt xs h
   generalize hke:leastN xs m=k at *
   have HKE:=Lib.hid hke
   clear hke
   have HB:=Lib.hid hbel
   have hown0:wr.ownsRow w.heap.size 23 2 (.slice none 0 0) 0 (ptsV ((rot k xs).take 0)):=by simp[ptsV,World.ownsRow_nil]
   clear hbel
   go_wp2_with fail
   obtain⟨wo,hwo⟩:∃wo:World,wo=wr:=⟨_,rfl⟩
   rw[←hwo]at HB hown0
   rw[←hwo]
   clear hwo
   go_loopw [5,6] (fun s i wx=>∃j:Nat,j≤m∧i= .int .i64 (j:Int)∧(∃A' c,s= .slice A' j c∧wx.ownsRow w.heap.size 23 2 (.slice A' j c) j (ptsV ((rot k xs).take j)))∧Below w.heap.size w wx) (fun _ i _=>m-(intOf i).toNat)
   case atStart=>exact⟨0,Nat.zero_le _,rfl,⟨none,0,rfl,hown0⟩,HB.out⟩
   case round=>
    clear hown0
    obtain⟨j,hj,rfl,⟨A',c,rfl,hown⟩,hbel⟩:=hrel
    by_cases hlt2:j<m
    ·have hlt':(j:Int)<(m:Int):=by omega
     have hkm':=hkm (by omega)
     have hw1:IntKind.i64.wrap ((j:Int)+1)=(j:Int)+1:=by rw[IntKind.wrap_i64];omega
     have hw2:IntKind.i64.wrap ((k:Int)+(j:Int))=(k:Int)+(j:Int):=IntWalk.i64_in _ (by omega)
     have hm0:¬m=0:=by omega
     have hm1:¬(m:Int)=0:=by omega
     have htm:((k:Int)+(j:Int)).tmod (m:Int)=(((k+j)%m:Nat):Int):=by
      rw[show (k:Int)+(j:Int)=((k+j:Nat):Int) by omega]
      rfl
     have hrl:(k+j)%m<m:=Nat.mod_lt _ (by omega)
     have htk:(rot k xs).take (j+1)=(rot k xs).take j++[ptAt xs ((k+j)%m)]:=by
      have hrL:(rot k xs).length=m:=by rw[rot_len (by have:=HR.out.2;omega)];exact HR.out.2
      rw[List.take_succ_eq_append_getElem (by omega),←ptAt_lt (by omega),ptAt_rot (by have:=HR.out.2;omega) (by have:=HR.out.2;omega),HR.out.2]
     generalize (k+j)%m=r at *
     have hrl':(r:Int)<(m:Int):=by omega
     have hwr:IntKind.i64.wrap (r:Int)=(r:Int):=IntWalk.i64_in _ (by omega)
     obtain⟨ad,rfl,-,-,-,-⟩:=HR.out.1.pt hlt2
     obtain⟨-,p1,p2⟩:=((HR.out.1.below hbel).more hbel.size).ptA hrl
     generalize ptAt xs r=P at *
     have HT:=Lib.hid htk
     clear htk
     go_wp2_with (at_builtin;refine wpList_append_any _ rfl (.tmp 29) (.tmp 39) _ rfl w.heap.size 23 i0 _ 2 16 Tryz.underlying25 hi0 hz0 hz1 hz2 rfl (by omega) (.slice A' j c) j _ rfl (hown.alloc _) (wr.alloc (.cells #[.int .i64 P.x,.int .i64 P.y] 23)).heap.size (some ⟨wr.heap.size,0,none⟩) 1 1 (ptsV [P]) rfl (Reads.made wr _ _ _ 2 1 _ rfl rfl) (ptsV_one _) (by simp only[maxLen];omega) (by omega) (by simp;have:=hbel.size;omega) ?_
                  intro v6 w6 hown6 hg6 hat6)
     have hB6:Below w.heap.size w w6:=(hbel.alloc hbel.size _).grown hg6 (by simp;have:=hbel.size;omega) (fun g hg=>(hown.lt g hg).1)
     rw[←ptsV_append,←HT.out]at hown6
     obtain⟨A6,c6,rfl⟩:=own_form hown6
     have H6:=Lib.hid (And.intro hown6 hB6)
     clear hown6 hB6 hg6 hat6 hown hbel p1 p2
     go_wp2_with fail
     go_roundw
     case rel=>exact⟨j+1,by omega,by go_num,⟨A6,c6,rfl,H6.out.1⟩,H6.out.2⟩
     case measure=>simp[intOf];omega
    ·have hjm:j=m:=by omega
     subst hjm
     have hrL:(rot k xs).length=j:=by
      rcases Nat.eq_zero_or_pos j with h|h
      ·have h2:=HR.out.2
       rw[h]at h2
       rw[List.eq_nil_of_length_eq_zero h2,h]
       simp[rot]
      ·rw[rot_len (by have:=HR.out.2;have:=hkm h;omega)];exact HR.out.2
     rw[List.take_of_length_le (by omega)]at hown
     have H7:=Lib.hid (And.intro hown hbel)
     clear hown hbel
     go_wp2_with fail
     go_ret
     exact⟨A',c,rfl,by rw[HKE.out];exact H7.out⟩
abbrev HoldG (W V:World) (a:Addr) (g:Nat) (p q:Pt):Prop:=V.cell? a=some (.int .i64 p.x)∧V.cell? ⟨a.block,a.off+1,none⟩=some (.int .i64 p.y)∧V.cell? ⟨g,0,none⟩=some (.int .i64 q.x)∧V.cell? ⟨g,1,none⟩=some (.int .i64 q.y)∧Below W.heap.size W V
theorem heldG {W V V':World} {a:Addr} {g:Nat} {p q:Pt} (hh:a.block<W.heap.size∧g<W.heap.size) (hs:V.cell? a=some (.int .i64 p.x)∧V.cell? ⟨a.block,a.off+1,none⟩=some (.int .i64 p.y)∧V.cell? ⟨g,0,none⟩=some (.int .i64 q.x)∧V.cell? ⟨g,1,none⟩=some (.int .i64 q.y)∧Below W.heap.size W V) (hb:Below V.heap.size V V'):
 V'.cell? a=some (.int .i64 p.x)∧V'.cell? ⟨a.block,a.off+1,none⟩=some (.int .i64 p.y)∧V'.cell? ⟨g,0,none⟩=some (.int .i64 q.x)∧V'.cell? ⟨g,1,none⟩=some (.int .i64 q.y)∧Below W.heap.size W V':=by
 obtain⟨h1,h2⟩:=hh
 obtain⟨c1,c2,c3,c4,c5⟩:=hs
 have:=c5.size
 exact⟨(hb.cell (p:=a) (by omega)).trans c1,(hb.cell (p:=⟨a.block,a.off+1,none⟩) (by simp only;omega)).trans c2,(hb.cell (p:=⟨g,0,none⟩) (by simp only;omega)).trans c3,(hb.cell (p:=⟨g,1,none⟩) (by simp only;omega)).trans c4,below_on c5 (Nat.le_refl _) hb⟩
set_option maxRecDepth 100000 in
set_option maxHeartbeats 1600000 in
theorem minPt_any (xs:List Pt) (A:Option Addr) (n cap:Nat) (w:World) (hr:Reads w w.heap.size 2 A n (ptsV xs)) (h1:1≤n) (hn:n≤8796093022208):
 Calls Tryz.prog 112 #[.slice A n cap,.func (.func 113) #[] #[]] w fun e w'=>e= .returned (ptV (ptAt xs (leastN xs n)))∧Below w.heap.size w w':=by
 obtain⟨ad,rfl,hbd,-,-,-⟩:=hr.pt (k:=0) (by omega)
 have hb0:=(Below.refl w.heap.size w).alloc (Nat.le_refl _) (.cells #[.int .i64 0,.int .i64 0] 23)
 obtain⟨-,p1,p2⟩:=(hr.below hb0).ptA (k:=0) (by omega)
 have hz0:(0:Int)<(n:Int):=by omega
 have hz2:¬(n:Int)<1:=by omega
 have bR:PtK (w.alloc (.cells #[.int .i64 0,.int .i64 0] 23)) w.heap.size ⟨0,0⟩:=PtK.new w ⟨0,0⟩
 rw[Nat.zero_mul,show ad.add 0=ad from by simp[Addr.add]]at p1 p2
 have hz1:0<n:=by omega
 have HRD:=Lib.hid hr
 clear hr
 have hP0:ptAt xs 0=ptAt xs (leastN xs 1):=by have h:=leastN_lt xs (m:=1) (by omega);rw[show leastN xs 1=0 by omega]
 have HQ0:=Lib.hid hP0
 clear hP0
 generalize ptAt xs 0=P0 at *
 have hB0:=hb0.alloc hb0.size (.cells #[.int .i64 P0.x,.int .i64 P0.y] 23)
 have HR0:Hid (PtK ((w.alloc (.cells #[.int .i64 0,.int .i64 0] 23)).alloc (.cells #[.int .i64 P0.x,.int .i64 P0.y] 23)) w.heap.size ⟨0,0⟩):=PtK.alloc bR _
 have HV0:Hid (PtK ((w.alloc (.cells #[.int .i64 0,.int .i64 0] 23)).alloc (.cells #[.int .i64 P0.x,.int .i64 P0.y] 23)) (w.heap.size+1) P0):=by
  have:=PtK.new (w.alloc (.cells #[.int .i64 0,.int .i64 0] 23)) P0
  rwa [World.size_alloc]at this
 have HB0:=Lib.hid hB0
 clear hB0 hb0 bR
 go_enter Tryz.func112,Tryz.ntmps112
 go_wp2_with fail
 go_loopw [6] (fun i wr=>∃k:Nat,1≤k∧k≤n∧i= .int .i64 (k:Int)∧Below w.heap.size w wr∧PtK wr w.heap.size ⟨0,0⟩∧PtK wr (w.heap.size+1) (ptAt xs (leastN xs k))) (fun i _=>n-(intOf i).toNat)
 case atStart=>exact⟨1,Nat.le_refl _,h1,rfl,HB0.out,HR0.out,by rw[←HQ0.out];exact HV0.out⟩
 case round=>
  clear HB0 HR0 HV0 HQ0 p1 p2 hz2
  obtain⟨k,hk1,hk,rfl,hbel,hR,hV⟩:=hrel
  have hgl:=hV.facts.2.2.2.2
  by_cases hlt:k<n
  ·have hlt':(k:Int)<(n:Int):=by omega
   have hw1:IntKind.i64.wrap ((k:Int)+1)=(k:Int)+1:=by rw[IntKind.wrap_i64];omega
   obtain⟨hbd',p1,p2⟩:=((HRD.out.below hbel).more hbel.size).ptA hlt
   have hst:leastN xs (k+1)=if ordI (ptAt xs k) (ptAt xs (leastN xs k))<0 then k else leastN xs k:=rfl
   have hkp:ptAt xs (leastN xs (k+1))=if ordI (ptAt xs k) (ptAt xs (leastN xs k))<0 then ptAt xs k else ptAt xs (leastN xs k):=by rw[hst];split<;>rfl
   clear hst
   generalize ptAt xs (leastN xs k)=Q at *
   obtain⟨q1,q2,q3,q4,-⟩:=hV.facts
   generalize ptAt xs k=P at *
   have kO:=fun V=>order_any P Q V
   generalize ordI P Q=o at *
   by_cases ho:o<0
   all_goals
    have hP0:HoldG wr wr.drew (ad.add (k*2)) (w.heap.size+1) P Q:=⟨p1,p2,q1,q2,(Below.refl _ _).drew⟩
    have hltM:(ad.add (k*2)).block<wr.heap.size∧w.heap.size+1<wr.heap.size:=by simp only[block_of_add];exact⟨hbd',hgl⟩
    unfold ptV at kO
    have HB:=Lib.hid (And.intro hbel (And.intro hR hV))
    clear hbel hR hV p1 p2 q1 q2 q3 q4 hbd'
    have HST:=Lib.hid hkp
    clear hkp
    go_wp2_with fail
    go_region_held3 (fun V=>V.cell? (ad.add (k*2))=some (.int .i64 P.x)∧V.cell? ⟨(ad.add (k*2)).block,(ad.add (k*2)).off+1,none⟩=some (.int .i64 P.y)∧V.cell? ⟨w.heap.size+1,0,none⟩=some (.int .i64 Q.x)∧V.cell? ⟨w.heap.size+1,1,none⟩=some (.int .i64 Q.y)∧Below wr.heap.size wr V)
     (first|with_reducible exact hP0|with_reducible exact heldG hltM (by assumption) (by assumption))
     (first
       |(go_simp;go_at_call 113;(with_reducible refine(kO _).mono ?_);rintro e w' ⟨rfl,hb'⟩;try dsimp only))
    clear hP0
    obtain⟨-,p3,-,-,hbV⟩:=(by assumption:HoldG wr _ (ad.add (k*2)) (w.heap.size+1) P Q)
    have hV':=HB.out.2.2.on hbV
    have hR':=HB.out.2.1.on hbV
    obtain⟨q1,q2,q3,q4,-⟩:=hV'.facts
    have HV:=Lib.hid (And.intro (below_on HB.out.1 (Nat.le_refl _) hbV) (And.intro hR' hV'))
    clear hbV hV' hR' q1 q2
    go_wp2_with fail
    go_roundw
    case rel=>
     refine⟨k+1,by omega,by omega,by go_num,?_⟩
     first
      |exact⟨HV.out.1,HV.out.2.1,by rw[HST.out,if_neg (by omega)];exact HV.out.2.2⟩
      |exact⟨(HV.out.1.setCell (p:=⟨w.heap.size+1,0,none⟩) (by simp) _).setCell (p:=⟨w.heap.size+1,1,none⟩) (by simp) _,(HV.out.2.1.far (a:=⟨w.heap.size+1,0,none⟩) (by simp) _).far (a:=⟨w.heap.size+1,1,none⟩) (by simp) _,by rw[HST.out,if_pos (by omega)];exact HV.out.2.2.put P⟩
    case measure=>simp[intOf];omega
  ·have hkn:k=n:=by omega
   subst hkn
   obtain⟨Q,hQ⟩:∃Q,Q=ptAt xs (leastN xs k):=⟨_,rfl⟩
   rw[←hQ]at hV
   have HQ:=Lib.hid hQ
   clear hQ
   obtain⟨q1,q2,q3,q4,-⟩:=hV.facts
   obtain⟨r1,r2,f3,f4,-⟩:=hR.facts
   have hbP:=(hbel.setCell (p:=⟨w.heap.size,0,none⟩) (Nat.le_refl _) (.int .i64 Q.x)).setCell (p:=⟨w.heap.size,1,none⟩) (Nat.le_refl _) (.int .i64 Q.y)
   obtain⟨z1,z2,-,-,-⟩:=(hR.put Q).facts
   have HB:=Lib.hid hbP
   clear hbel hR hbP
   go_wp2_with fail
   exact bodyPost_ret (v:=ptV Q) (by unfold ptV;simp[results,Tryz.results112,go_sem,z1,z2]) rfl ⟨by rw[HQ.out],HB.out⟩
theorem ordI_neg {a b:Pt}:ordI a b<0↔a.x<b.x∨(a.x=b.x∧a.y<b.y):=by
 unfold ordI orI
 rcases cmpI_cases a.x b.x with ⟨h,e⟩|⟨h,e⟩|⟨h,e⟩<;>rcases cmpI_cases a.y b.y with ⟨h',e'⟩|⟨h',e'⟩|⟨h',e'⟩<;>rw[e,e']<;>simp<;>omega
theorem leastN_first (xs:List Pt) (m:Nat):(∀j,j<m→¬ordI (ptAt xs j) (ptAt xs (leastN xs m))<0)∧∀j,j<leastN xs m→ptAt xs j≠ptAt xs (leastN xs m):=by
 induction m with
 |zero=>exact⟨fun j hj=>absurd hj (Nat.not_lt_zero _),fun j hj=>absurd hj (Nat.not_lt_zero _)⟩
 |succ m ih=>
  obtain⟨i1,i2⟩:=ih
  have hst:leastN xs (m+1)=if ordI (ptAt xs m) (ptAt xs (leastN xs m))<0 then m else leastN xs m:=rfl
  by_cases h:ordI (ptAt xs m) (ptAt xs (leastN xs m))<0
  ·rw[if_pos h]at hst
   rw[hst]
   refine⟨fun j hj=>?_,fun j hj he=>?_⟩
   ·by_cases e:j=m
    ·subst e;rw[ordI_neg];omega
    ·have:=i1 j (by omega)
     rw[ordI_neg]at this h ⊢
     omega
   ·exact i1 j hj (by rw[he];exact h)
  ·rw[if_neg h]at hst
   rw[hst]
   refine⟨fun j hj=>?_,i2⟩
   by_cases e:j=m
   ·subst e;exact h
   ·exact i1 j (by omega)
theorem Reads.takeP {w:World} {B n k:Nat} {A:Option Addr} {xs:List Pt} (h:Reads w B 2 A n (ptsV xs)) (hk:k≤n):Reads w B 2 A k (ptsV (xs.take k)):=by
 have hl:=h.lenPt
 refine⟨by rw[ptsV_length,List.length_take];omega,fun hp=>?_⟩
 obtain⟨ad,e,hb,hc⟩:=h.2 (by omega)
 refine⟨ad,e,hb,fun j u hu=>hc j u ?_⟩
 rw[←List.take_append_drop k xs,ptsV_append,List.getElem?_append_left (by have:=(List.getElem?_eq_some_iff.1 hu).1;exact this)]
 exact hu
theorem drop_ptsV (xs:List Pt) (k:Nat):(ptsV xs).drop (k*2)=ptsV (xs.drop k):=by
 by_cases h:k≤xs.length
 ·have e:ptsV xs=ptsV (xs.take k)++ptsV (xs.drop k):=by rw[←ptsV_append,List.take_append_drop]
  rw[e,List.drop_left' (by rw[ptsV_length,List.length_take];omega)]
 ·rw[List.drop_eq_nil_of_le (by omega:xs.length≤k),List.drop_eq_nil_of_le (by rw[ptsV_length];omega)]
  rfl
theorem Reads.dropP {w:World} {B n k cap:Nat} {ad:Addr} {xs:List Pt} (h:Reads w B 2 (some ad) n (ptsV xs)) (hk:k≤n) (hc:n≤cap) (hne:¬cap=k):Reads w B 2 (some (ad.add (k*2))) (n-k) (ptsV (xs.drop k)):=by
 have:=h.cut hk hc
 rw[drop_ptsV,if_neg hne]at this
 exact this
set_option maxRecDepth 100000 in
set_option maxHeartbeats 1600000 in
theorem leastP_any (xs:List Pt) (A:Option Addr) (n cap:Nat) (w:World) (hr:Reads w w.heap.size 2 A n (ptsV xs)) (hc:n≤cap) (hn:n≤1048576):
 Calls Tryz.prog 67 #[.slice A n cap] w fun e w'=>∃A' c,e= .returned (.slice A' n c)∧w'.ownsRow w.heap.size 23 2 (.slice A' n c) n (ptsV (rot (leastN xs n) xs))∧Below w.heap.size w w':=by
 have hl:xs.length=n:=hr.lenPt
 by_cases h0:n=0
 ·subst h0
  obtain rfl:=List.eq_nil_of_length_eq_zero hl
  clear hr
  go_enter Tryz.func67,Tryz.ntmps67
  go_wp2_with fail
  go_ret
  exact⟨none,0,rfl,by simp[rot,ptsV,World.ownsRow_nil],Below.refl _ _⟩
 ·have h0':¬(n:Int)=0:=by omega
  have hkn:=leastN_lt xs (m:=n) (by omega)
  have kM:=Lib.hid (minPt_any xs A n cap w hr (by omega) (by omega))
  have kF:=Lib.hid (leastN_first xs n).2
  obtain⟨k,hk⟩:∃k,k=leastN xs n:=⟨_,rfl⟩
  rw[←hk]at kM kF hkn ⊢
  clear hk
  obtain⟨ad,rfl,-,-,-,-⟩:=hr.pt (k:=0) (by omega)
  have HR:=Lib.hid (And.intro hr hl)
  clear hr hl
  go_enter Tryz.func67,Tryz.ntmps67
  go_wp2_with fail
  refine kM.out.mono ?_
  rintro e w1 ⟨rfl,hb1⟩
  have kI:=Lib.hid (indexPt_any xs (some ad) n cap k w1 (HR.out.1.on hb1) hkn kF.out (by omega))
  clear kM kF
  have HB:=Lib.hid hb1
  clear hb1
  go_wp2_with fail
  refine kI.out.mono ?_
  rintro e w2 ⟨rfl,hb2⟩
  have HB2:=Lib.hid (below_on HB.out (Nat.le_refl _) hb2)
  clear HB hb2 kI
  have e1:(k:Int)≤(n:Int):=by omega
  have e2:(n:Int)≤(cap:Int):=by omega
  have e3:¬cap=k:=by omega
  have e4:(k:Int)≤(cap:Int):=by omega
  have e5:¬(k:Int)<0:=by omega
  have e6:k≤n:=by omega
  have e7:k≤cap:=by omega
  go_wp2_with fail
  have hP0:Below w2.heap.size w2 w2.drew:=(Below.refl _ _).drew
  have hSA:Below w2.heap.size w2 (World.drew (w2.alloc (.cells #[.slice (some (ad.add (k*2))) (n-k) (cap-k),.slice (some ad) k cap] 25))):=((Below.refl _ _).alloc (Nat.le_refl _) _).drew
  have hRx:Reads w2 w2.heap.size 2 (some ad) n (ptsV xs):=HR.out.1.on HB2.out
  have kC:=concatPt_any (xs.drop k) (xs.take k) (some (ad.add (k*2))) (some ad) (n-k) k (cap-k) cap w2.heap.size 2 (World.drew (w2.alloc (.cells #[.slice (some (ad.add (k*2))) (n-k) (cap-k),.slice (some ad) k cap] 25)))
   ((hRx.dropP e6 hc e3).on hSA) ((hRx.takeP e6).on hSA) (by simp) (Blk.cell (Blk.new w2 _ _) 0) (Blk.cell (Blk.new w2 _ _) 1) (by omega) (by omega)
  rw[show n-k+k=n by omega]at kC
  have kC:=Lib.hid kC
  clear hRx
  go_region_held3 (fun V=>Below w2.heap.size w2 V)
   (first|with_reducible exact hP0|with_reducible exact hSA|with_reducible exact hSB)
   (first
     |(go_simp;go_at_call 68;(with_reducible refine(kC.out).mono ?_);rintro e w' ⟨A',c',rfl,ho',hb'⟩;have hSB:=below_on hSA (Nat.le_refl _) hb';try dsimp only))
  all_goals
   clear hP0 hSA
   have HF:=Lib.hid (And.intro (own_mono ho' (Nat.le_trans HB2.out.size (by simp))) (below_on HB2.out (Nat.le_refl _) hSB))
   clear ho' hb' hSB HB2 kC
   go_wp2_with fail
   go_ret
   exact⟨A',c',rfl,HF.out⟩
def pcAt (ps:List Parc) (k:Nat):Parc:=ps[k]?.getD ⟨0,[],ByteArray.empty⟩
theorem pcAt_lt {ps:List Parc} {k:Nat} (h:k<ps.length):pcAt ps k=ps[k]:=by unfold pcAt;simp[h]
def PIn (W:World) (B:Nat) (A:Option Addr) (n:Nat) (ps:List Parc):Prop:=
 ps.length=n∧(0<n→∃ad,A=some ad∧ad.block<B∧∀k,k<n→W.cell? (ad.add (k*3))=some (.int .i64 (pcAt ps k).id)∧
  (∃Ak nk ck,W.cell? (ad.add (k*3+1))=some (.slice Ak nk ck)∧Reads W B 2 Ak nk (ptsV (pcAt ps k).ring)∧nk≤ck∧ck≤9223372036854775807)∧W.cell? (ad.add (k*3+2))=some (.string (pcAt ps k).owner))
theorem PIn.keep {W W':World} {B n:Nat} {A:Option Addr} {ps:List Parc} (h:PIn W B A n ps) (hk:∀p:Addr,p.block<B→W'.cell? p=W.cell? p):PIn W' B A n ps:=by
 refine⟨h.1,fun h0=>?_⟩
 obtain⟨ad,e,hb,hc⟩:=h.2 h0
 refine⟨ad,e,hb,fun k hkn=>?_⟩
 obtain⟨h1,⟨Ak,nk,ck,h2,h3,h4⟩,h5⟩:=hc k hkn
 exact⟨(hk _ (by rw[block_of_add];exact hb)).trans h1,⟨Ak,nk,ck,(hk _ (by rw[block_of_add];exact hb)).trans h2,h3.keep hk,h4⟩,(hk _ (by rw[block_of_add];exact hb)).trans h5⟩
theorem PIn.more {W:World} {B B' n:Nat} {A:Option Addr} {ps:List Parc} (h:PIn W B A n ps) (hB:B≤B'):PIn W B' A n ps:=by
 refine⟨h.1,fun h0=>?_⟩
 obtain⟨ad,e,hb,hc⟩:=h.2 h0
 refine⟨ad,e,Nat.lt_of_lt_of_le hb hB,fun k hkn=>?_⟩
 obtain⟨h1,⟨Ak,nk,ck,h2,h3,h4⟩,h5⟩:=hc k hkn
 exact⟨h1,⟨Ak,nk,ck,h2,h3.more hB,h4⟩,h5⟩
theorem PIn.below {W W':World} {B n:Nat} {A:Option Addr} {ps:List Parc} (h:PIn W B A n ps) (hb:Below B W W'):PIn W' B A n ps:=h.keep fun _ hp=>hb.cell hp
theorem PIn.on {W W':World} {n:Nat} {A:Option Addr} {ps:List Parc} (h:PIn W W.heap.size A n ps) (hb:Below W.heap.size W W'):PIn W' W'.heap.size A n ps:=(h.below hb).more hb.size
theorem add_off3 (ad:Addr) (k j:Nat) (hj:0<j):(⟨(ad.add k).block,(ad.add k).off+j,none⟩:Addr)=ad.add (k+j):=by
 simp only[Addr.add]
 rw[if_neg (by omega:¬k+j=0)]
 split<;>simp<;>omega
theorem PIn.at_ {W:World} {B n:Nat} {ad:Addr} {ps:List Parc} (h:PIn W B (some ad) n ps) {k:Nat} (hk:k<n):
 ad.block<B∧W.cell? (ad.add (k*3))=some (.int .i64 (pcAt ps k).id)∧(∃Ak nk ck,W.cell? ⟨(ad.add (k*3)).block,(ad.add (k*3)).off+1,none⟩=some (.slice Ak nk ck)∧Reads W B 2 Ak nk (ptsV (pcAt ps k).ring)∧nk≤ck∧ck≤9223372036854775807)∧
  W.cell? ⟨(ad.add (k*3)).block,(ad.add (k*3)).off+2,none⟩=some (.string (pcAt ps k).owner):=by
 obtain⟨ad',e,hb,hc⟩:=h.2 (by omega)
 obtain rfl:ad=ad':=by simpa using e
 obtain⟨h1,⟨Ak,nk,ck,h2,h3,h4⟩,h5⟩:=hc k hk
 exact⟨hb,h1,⟨Ak,nk,ck,by rw[add_off3 _ _ _ (by omega)];exact h2,h3,h4⟩,by rw[add_off3 _ _ _ (by omega)];exact h5⟩
theorem PIn.some_ {W:World} {B n:Nat} {A:Option Addr} {ps:List Parc} (h:PIn W B A n ps) (hn:0<n):∃ad,A=some ad:=by
 obtain⟨ad,e,-⟩:=h.2 hn
 exact⟨ad,e⟩
/-- What a plan's numbers and lengths are bound by. -/
def Parc.fits (x:Parc):Prop:=x.ring.length≤8796093022208∧(∀p∈x.ring,p.inI)∧inI x.id∧x.owner.size≤9223372036854775807
def Plan.fits (p:Plan):Prop:=(p.outer.length≤8796093022208∧∀q∈p.outer,q.inI)∧p.parcels.length≤8796093022208∧∀x∈p.parcels,x.fits
theorem Plan.fits.pc {p:Plan} (h:p.fits) {k:Nat} (hk:k<p.parcels.length):(pcAt p.parcels k).fits:=by
 rw[pcAt_lt hk];exact h.2.2 _ (List.getElem_mem hk)
structure PlanAt (W:World) (B:Nat) (A:Option Addr) (n c:Nat) (A':Option Addr) (n' c':Nat) (p:Plan):Prop where
 outer:Reads W B 2 A n (ptsV p.outer)
 parcs:PIn W B A' n' p.parcels
 oc:n≤c∧c≤9223372036854775807
 pc:n'≤c'∧c'≤9223372036854775807
 fits:p.fits
theorem PlanAt.below {W W':World} {B n c n' c':Nat} {A A':Option Addr} {p:Plan} (h:PlanAt W B A n c A' n' c' p) (hb:Below B W W'):PlanAt W' B A n c A' n' c' p:=⟨h.outer.below hb,h.parcs.below hb,h.oc,h.pc,h.fits⟩
theorem PlanAt.more {W:World} {B B' n c n' c':Nat} {A A':Option Addr} {p:Plan} (h:PlanAt W B A n c A' n' c' p) (hB:B≤B'):PlanAt W B' A n c A' n' c' p:=⟨h.outer.more hB,h.parcs.more hB,h.oc,h.pc,h.fits⟩
theorem PlanAt.on {W W':World} {n c n' c':Nat} {A A':Option Addr} {p:Plan} (h:PlanAt W W.heap.size A n c A' n' c' p) (hb:Below W.heap.size W W'):PlanAt W' W'.heap.size A n c A' n' c' p:=(h.below hb).more hb.size
theorem PlanAt.lens {W:World} {B n c n' c':Nat} {A A':Option Addr} {p:Plan} (h:PlanAt W B A n c A' n' c' p):p.outer.length=n∧p.parcels.length=n'∧n≤8796093022208∧n'≤8796093022208:=by
 have h1:=h.outer.lenPt
 have h2:=h.parcs.1
 have h3:=h.fits.1.1
 have h4:=h.fits.2.1
 exact⟨h1,h2,by omega,by omega⟩
abbrev planV (A:Option Addr) (n c:Nat) (A':Option Addr) (n' c':Nat):Value:= .agg #[.slice A n c,.slice A' n' c']
/-- A block that holds one parcel. -/
def PcK (W:World) (g:Nat) (x:Parc) (A:Option Addr) (n c:Nat):Prop:=Blk W g 27 #[.int .i64 x.id,.slice A n c,.string x.owner]
theorem PcK.facts {W:World} {g:Nat} {x:Parc} {A:Option Addr} {n c:Nat} (h:PcK W g x A n c):W.cell? ⟨g,0,none⟩=some (.int .i64 x.id)∧W.cell? ⟨g,1,none⟩=some (.slice A n c)∧W.cell? ⟨g,2,none⟩=some (.string x.owner)∧g<W.heap.size:=
 ⟨by rw[Blk.cell h 0];rfl,by rw[Blk.cell h 1];rfl,by rw[Blk.cell h 2];rfl,Blk.lt h⟩
theorem PcK.new (w:World) (x:Parc) (A:Option Addr) (n c:Nat):PcK (w.alloc (.cells #[.int .i64 x.id,.slice A n c,.string x.owner] 27)) w.heap.size x A n c:=Blk.new w _ _
theorem PcK.on {W W':World} {g:Nat} {x:Parc} {A:Option Addr} {n c:Nat} (h:PcK W g x A n c) (hb:Below W.heap.size W W'):PcK W' g x A n c:=Blk.below h hb (Blk.lt h)
/-- A block that holds a plan's two slices. -/
def PlK (W:World) (g:Nat) (A:Option Addr) (n c:Nat) (A':Option Addr) (n' c':Nat):Prop:=Blk W g 30 #[.slice A n c,.slice A' n' c']
theorem PlK.facts {W:World} {g:Nat} {A A':Option Addr} {n c n' c':Nat} (h:PlK W g A n c A' n' c'):W.cell? ⟨g,0,none⟩=some (.slice A n c)∧W.cell? ⟨g,1,none⟩=some (.slice A' n' c')∧g<W.heap.size:=
 ⟨by rw[Blk.cell h 0];rfl,by rw[Blk.cell h 1];rfl,Blk.lt h⟩
theorem PlK.new (w:World) (A:Option Addr) (n c:Nat) (A':Option Addr) (n' c':Nat):PlK (w.alloc (.cells #[.slice A n c,.slice A' n' c'] 30)) w.heap.size A n c A' n' c':=Blk.new w _ _
theorem PlK.on {W W':World} {g:Nat} {A A':Option Addr} {n c n' c':Nat} (h:PlK W g A n c A' n' c') (hb:Below W.heap.size W W'):PlK W' g A n c A' n' c':=Blk.below h hb (Blk.lt h)
end Go.Proofs.YtpkeacnacjnlcaaGreat
