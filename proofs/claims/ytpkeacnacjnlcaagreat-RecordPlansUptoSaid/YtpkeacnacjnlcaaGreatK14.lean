/- The document's back, Place, Edges, All: the walks; grid.Cells: the walk; Plain law: a corner more on an edge. -/
import Derived.Laws.IdiomCopy
import Derived.Lib.EndianMore
import Derived.Test.YtpkeacnacjnlcaaGreatK01
import Derived.Test.YtpkeacnacjnlcaaGreatK02
import Derived.Test.YtpkeacnacjnlcaaGreatK09
import Derived.Test.YtpkeacnacjnlcaaGreatK10
import Derived.Test.YtpkeacnacjnlcaaGreatK12
namespace Go.Proofs.YtpkeacnacjnlcaaGreat
open Go.RowKit
theorem backR_any (e:Ed) (w:World):
 Calls Tryz.prog 38 #[.agg #[.int .i64 e.a.x,.int .i64 e.a.y,.int .i64 e.b.x,.int .i64 e.b.y]] w fun r w'=>r= .returned (.agg #[.int .i64 e.b.x,.int .i64 e.b.y,.int .i64 e.a.x,.int .i64 e.a.y])∧Below w.heap.size w w':=by
 obtain⟨⟨ax,ay⟩,⟨bx,by_⟩⟩:=e
 have h1:Blk ((w.alloc (.cells #[.int .i64 ax,.int .i64 ay,.int .i64 bx,.int .i64 by_] 76)).alloc (.cells #[.int .i64 0,.int .i64 0,.int .i64 0,.int .i64 0] 76)) w.heap.size 76 #[.int .i64 ax,.int .i64 ay,.int .i64 bx,.int .i64 by_]:=Blk.alloc (Blk.new w _ _) _
 have h2:=Blk.new (w.alloc (.cells #[.int .i64 ax,.int .i64 ay,.int .i64 bx,.int .i64 by_] 76)) 76 #[.int .i64 0,.int .i64 0,.int .i64 0,.int .i64 0]
 rw[World.size_alloc]at h2
 have hB:Below w.heap.size w ((w.alloc (.cells #[.int .i64 ax,.int .i64 ay,.int .i64 bx,.int .i64 by_] 76)).alloc (.cells #[.int .i64 0,.int .i64 0,.int .i64 0,.int .i64 0] 76)):=((Below.refl _ _).alloc (Nat.le_refl _) _).alloc (by simp) _
 go_enter Tryz.func38,Tryz.ntmps38
 generalize hW:(w.alloc (.cells #[.int .i64 ax,.int .i64 ay,.int .i64 bx,.int .i64 by_] 76)).alloc (.cells #[.int .i64 0,.int .i64 0,.int .i64 0,.int .i64 0] 76)=W at *
 have c1:W.cell? ⟨w.heap.size,0,none⟩=some (.int .i64 ax):=by rw[Blk.cell h1 0];rfl
 have c2:W.cell? ⟨w.heap.size,1,none⟩=some (.int .i64 ay):=by rw[Blk.cell h1 1];rfl
 have c3:W.cell? ⟨w.heap.size,2,none⟩=some (.int .i64 bx):=by rw[Blk.cell h1 2];rfl
 have c4:W.cell? ⟨w.heap.size,3,none⟩=some (.int .i64 by_):=by rw[Blk.cell h1 3];rfl
 have d1:W.cell? ⟨w.heap.size+1,0,none⟩=some (.int .i64 0):=by rw[Blk.cell h2 0];rfl
 have d2:W.cell? ⟨w.heap.size+1,1,none⟩=some (.int .i64 0):=by rw[Blk.cell h2 1];rfl
 have d3:W.cell? ⟨w.heap.size+1,2,none⟩=some (.int .i64 0):=by rw[Blk.cell h2 2];rfl
 have d4:W.cell? ⟨w.heap.size+1,3,none⟩=some (.int .i64 0):=by rw[Blk.cell h2 3];rfl
 have f1:=Blk.frozen h2 0
 have f2:=Blk.frozen h2 1
 have f3:=Blk.frozen h2 2
 have f4:=Blk.frozen h2 3
 go_wp2_with fail
 have hs:=Blk.set_ (Blk.set_ (Blk.set_ (Blk.set_ h2 0 (.int .i64 bx)) 1 (.int .i64 by_)) 2 (.int .i64 ax)) 3 (.int .i64 ay)
 have q1:=Blk.cell hs 0
 have q2:=Blk.cell hs 1
 have q3:=Blk.cell hs 2
 have q4:=Blk.cell hs 3
 simp only[List.setIfInBounds_toArray,List.set_cons_zero,List.set_cons_succ,List.getElem?_toArray,List.getElem?_cons_zero,List.getElem?_cons_succ]at q1 q2 q3 q4
 refine bodyPost_ret (v:= .agg #[.int .i64 bx,.int .i64 by_,.int .i64 ax,.int .i64 ay]) (by simp[results,Tryz.results38,go_sem,q1,q2,q3,q4]) rfl ⟨rfl,?_⟩
 exact(((hB.setCell (p:=⟨w.heap.size+1,0,none⟩) (by simp) _).setCell (p:=⟨w.heap.size+1,1,none⟩) (by simp) _).setCell (p:=⟨w.heap.size+1,2,none⟩) (by simp) _).setCell (p:=⟨w.heap.size+1,3,none⟩) (by simp) _
theorem info_ed:(Tryz.prog.info? 76).map (fun i=>(i.zero,i.size,i.bytes))=some (some (.agg #[.int .i64 0,.int .i64 0,.int .i64 0,.int .i64 0]),4,32):=by kernel_rfl
def edAt (l:List Ed) (k:Nat):Ed:=l[k]?.getD ⟨⟨0,0⟩,⟨0,0⟩⟩
theorem edAt_lt {l:List Ed} {k:Nat} (h:k<l.length):edAt l k=l[k]:=by unfold edAt;simp[h]
theorem Reads.lenEd {w:World} {B n:Nat} {A:Option Addr} {l:List Ed} (h:Reads w B 4 A n (edsV l)):l.length=n:=by
 have:=h.1
 rw[edsV_length]at this
 omega
theorem edsV_get {l:List Ed} {k:Nat} (hk:k<l.length):(edsV l)[k*4]?=some (.int .i64 (edAt l k).a.x)∧(edsV l)[k*4+1]?=some (.int .i64 (edAt l k).a.y)∧(edsV l)[k*4+2]?=some (.int .i64 (edAt l k).b.x)∧(edsV l)[k*4+3]?=some (.int .i64 (edAt l k).b.y):=by
 have hl:=edsV_length l
 have key:∀c,c<4→(edsV l)[k*4+c]?=some ((encEL (edAt l k))[c]!):=fun c hc=>by
  have h1:k*4+c<(edsV l).length:=by omega
  obtain⟨h2,h3⟩:=edsV_at (List.getElem?_eq_getElem h1)
  rw[List.getElem?_eq_getElem h1,h3]
  have e1:(k*4+c)/4=k:=by omega
  have e2:(k*4+c)%4=c:=by omega
  simp only[e1,e2,edAt_lt hk]
 exact⟨key 0 (by omega),key 1 (by omega),key 2 (by omega),key 3 (by omega)⟩
theorem Reads.edA {w:World} {B n:Nat} {A:Option Addr} {l:List Ed} (h:Reads w B 4 A n (edsV l)) {k:Nat} (hk:k<n):
 ∃ad,A=some ad∧ad.block<B∧w.cell? (ad.add (k*4))=some (.int .i64 (edAt l k).a.x)∧w.cell? ⟨(ad.add (k*4)).block,(ad.add (k*4)).off+1,none⟩=some (.int .i64 (edAt l k).a.y)∧w.cell? ⟨(ad.add (k*4)).block,(ad.add (k*4)).off+2,none⟩=some (.int .i64 (edAt l k).b.x)∧w.cell? ⟨(ad.add (k*4)).block,(ad.add (k*4)).off+3,none⟩=some (.int .i64 (edAt l k).b.y):=by
 obtain⟨ad,e,hb,hc⟩:=h.2 (by omega)
 obtain⟨h1,h2,h3,h4⟩:=edsV_get (l:=l) (k:=k) (by have:=h.lenEd;omega)
 refine⟨ad,e,hb,hc _ _ h1,?_,?_,?_⟩
 ·rw[add_off3 _ _ _ (by omega)];exact hc _ _ h2
 ·rw[add_off3 _ _ _ (by omega)];exact hc _ _ h3
 ·rw[add_off3 _ _ _ (by omega)];exact hc _ _ h4
set_option maxHeartbeats 1600000 in
theorem placeR_any (l:List Ed) (e:Ed) (A:Option Addr) (n cap:Nat) (w:World) (hr:Reads w w.heap.size 4 A n (edsV l)) (hn:n≤8796093022208):
 Calls Tryz.prog 37 #[.slice A n cap,.agg #[.int .i64 e.a.x,.int .i64 e.a.y,.int .i64 e.b.x,.int .i64 e.b.y]] w fun r w'=>∃i:Int,r= .returned (.int .i64 i)∧((i= -1∧e∉l)∨∃k:Nat,k<n∧i=(k:Int)∧edAt l k=e∧∀j,j<k→edAt l j≠e)∧Below w.heap.size w w':=by
 have hl:=hr.lenEd
 have hB0:=(Below.refl w.heap.size w).alloc (Nat.le_refl _) (.cells #[.int .i64 e.a.x,.int .i64 e.a.y,.int .i64 e.b.x,.int .i64 e.b.y] 76)
 have hP0:=Blk.new w 76 #[.int .i64 e.a.x,.int .i64 e.a.y,.int .i64 e.b.x,.int .i64 e.b.y]
 have H0:=Lib.hid (And.intro hB0 hP0)
 clear hB0 hP0
 go_enter Tryz.func37,Tryz.ntmps37
 go_wp2
 go_loopw [5] (fun i wr=>∃m:Nat,m≤n∧i= .int .i64 (m:Int)∧Hid (∀j,j<m→edAt l j≠e)∧Below w.heap.size w wr∧Blk wr w.heap.size 76 #[.int .i64 e.a.x,.int .i64 e.a.y,.int .i64 e.b.x,.int .i64 e.b.y]) (fun i _=>n-(intOf i).toNat)
 case atStart=>exact⟨0,Nat.zero_le _,rfl,fun j hj=>absurd hj (Nat.not_lt_zero _),H0.out⟩
 case round=>
  clear H0
  obtain⟨m,hm,rfl,HF,hbel,hK⟩:=hrel
  by_cases hlt:m<n
  ·have hmn':(m:Int)<(n:Int):=by omega
   have hw1:IntKind.i64.wrap ((m:Int)+1)=(m:Int)+1:=by rw[IntKind.wrap_i64];omega
   obtain⟨ad,rfl,-,p1,p2,p3,p4⟩:=(hr.below hbel).edA hlt
   have q1:wr.cell? ⟨w.heap.size,0,none⟩=some (.int .i64 e.a.x):=by rw[Blk.cell hK 0];rfl
   have q2:wr.cell? ⟨w.heap.size,1,none⟩=some (.int .i64 e.a.y):=by rw[Blk.cell hK 1];rfl
   have q3:wr.cell? ⟨w.heap.size,2,none⟩=some (.int .i64 e.b.x):=by rw[Blk.cell hK 2];rfl
   have q4:wr.cell? ⟨w.heap.size,3,none⟩=some (.int .i64 e.b.y):=by rw[Blk.cell hK 3];rfl
   have he:=fun W=>(eqEd_runs .eql (.tmp 0) (.tmp 0) (edAt l m) e W).1
   have hg:=fun op a b W=>eqGuard_ed op a b (edAt l m) e W
   unfold encE at he hg
   obtain⟨P,hP⟩:∃P,P=edAt l m:=⟨_,rfl⟩
   rw[←hP]at p1 p2 p3 p4 he hg
   have HP:=Lib.hid hP
   have HB:=Lib.hid (And.intro hbel hK)
   clear hbel hK hr hP
   by_cases hpe:P=e
   ·rw[decide_eq_true hpe]at he
    have HE:=Lib.hid hpe
    clear hpe
    go_wp2
    go_quiet (fail)
    go_wp2
    go_ret
    exact⟨m,rfl,.inr ⟨m,hlt,rfl,by rw[←HP.out];exact HE.out,HF.out⟩,below_drewN HB.out.1 _⟩
   ·rw[decide_eq_false hpe]at he
    have HE:Hid (∀j,j<m+1→edAt l j≠e):=fun j hj=>by
     by_cases h:j=m
     ·rw[h,←HP.out];exact hpe
     ·exact HF.out j (by omega)
    clear hpe
    go_wp2
    go_quiet (fail)
    go_wp2
    go_roundw
    case rel=>exact⟨m+1,by omega,by go_num,HE.out,below_drewN HB.out.1 _,HB.out.2⟩
    case measure=>simp[intOf];omega
  ·have hmn:m=n:=by omega
   subst hmn
   have HB:=Lib.hid hbel
   have HN:Hid (e∉l):=fun h=>by
    obtain⟨j,hj,h2⟩:=List.getElem_of_mem h
    exact HF.out j (by omega) (by rw[edAt_lt hj];exact h2)
   clear hbel hK
   go_wp2
   go_ret
   exact⟨-1,rfl,.inl ⟨rfl,HN.out⟩,HB.out⟩
set_option maxRecDepth 100000 in
set_option maxHeartbeats 1600000 in
theorem edgesR_any (xs:List Pt) (A:Option Addr) (n cap:Nat) (w:World) (hr:Reads w w.heap.size 2 A n (ptsV xs)) (hn:n≤1048576):
 Calls Tryz.prog 36 #[.slice A n cap] w fun e w'=>∃A' c,e= .returned (.slice A' n c)∧w'.ownsRow w.heap.size 76 4 (.slice A' n c) n (edsV (edgesOf xs))∧Below w.heap.size w w':=by
 obtain⟨i0,hi0,hz0,hz1,hz2⟩:=info_parts info_ed
 have hl:xs.length=n:=hr.lenPt
 have HR:=Lib.hid (And.intro hr hl)
 have hed:edgesOf xs=(List.range n).map (edgeK xs):=by rw[edgesOf_map,hl]
 rw[hed]
 clear hr hl hed
 go_enter Tryz.func36,Tryz.ntmps36
 go_wp2_with fail
 go_loopw [3,4] (fun s i wr=>∃k:Nat,k≤n∧i= .int .i64 (k:Int)∧(∃B cb,s= .slice B k cb∧wr.ownsRow w.heap.size 76 4 (.slice B k cb) k (edsV ((List.range k).map (edgeK xs))))∧Below w.heap.size w wr) (fun _ i _=>n-(intOf i).toNat)
 case atStart=>exact⟨0,Nat.zero_le _,rfl,⟨none,0,rfl,by simp[edsV,World.ownsRow_nil]⟩,Below.refl _ _⟩
 case round=>
  obtain⟨k,hk,rfl,⟨B,cb,rfl,hown⟩,hbel⟩:=hrel
  by_cases hlt:k<n
  ·have hlt':(k:Int)<(n:Int):=by omega
   have hw1:IntKind.i64.wrap ((k:Int)+1)=(k:Int)+1:=by rw[IntKind.wrap_i64];omega
   have hn0:¬(n=0):=by omega
   have hn0':¬((n:Int)=0):=by omega
   obtain⟨m,hm⟩:∃m,m=(k+1)%n:=⟨_,rfl⟩
   have hml:m<n:=by rw[hm];exact Nat.mod_lt _ (by omega)
   have hml':(m:Int)<(n:Int):=by omega
   have ht1:((k:Int)+1).tmod (n:Int)=(m:Int):=by rw[mod_tmod,←hm]
   obtain⟨ad,rfl,-,-,-,-⟩:=HR.out.1.pt hlt
   obtain⟨-,p1,p2⟩:=(HR.out.1.below hbel).ptA hlt
   obtain⟨-,q1,q2⟩:=(HR.out.1.below hbel).ptA hml
   have hek:edgeK xs k=⟨ptAt xs k,ptAt xs m⟩:=by unfold edgeK;rw[HR.out.2,←hm]
   have htk:(List.range (k+1)).map (edgeK xs)=(List.range k).map (edgeK xs)++[⟨ptAt xs k,ptAt xs m⟩]:=by rw[List.range_succ,List.map_append,List.map_singleton,hek]
   have hS0:∀V,Below w.heap.size w V→V.cell? (ad.add (k*2))=some (.int .i64 (ptAt xs k).x)∧V.cell? ⟨(ad.add (k*2)).block,(ad.add (k*2)).off+1,none⟩=some (.int .i64 (ptAt xs k).y)∧V.cell? (ad.add (m*2))=some (.int .i64 (ptAt xs m).x)∧V.cell? ⟨(ad.add (m*2)).block,(ad.add (m*2)).off+1,none⟩=some (.int .i64 (ptAt xs m).y)∧Below w.heap.size w V:=fun V hb=>by
    obtain⟨-,a1,a2⟩:=(HR.out.1.below hb).ptA hlt
    obtain⟨-,a3,a4⟩:=(HR.out.1.below hb).ptA hml
    exact⟨a1,a2,a3,a4,hb⟩
   have HT:=Lib.hid htk
   clear hm hek htk p1 p2 q1 q2
   obtain⟨ee,hee⟩:∃ee:Ed,ee=⟨ptAt xs k,ptAt xs m⟩:=⟨_,rfl⟩
   rw[←hee]at HT
   have hev:edsV [ee]=[.int .i64 (ptAt xs k).x,.int .i64 (ptAt xs k).y,.int .i64 (ptAt xs m).x,.int .i64 (ptAt xs m).y]:=by rw[hee];rfl
   clear hee
   generalize (ptAt xs k).x=px at *
   generalize (ptAt xs k).y=py at *
   generalize (ptAt xs m).x=qx at *
   generalize (ptAt xs m).y=qy at *
   have hBW:=(hbel.alloc hbel.size (.cells #[.int .i64 px,.int .i64 py,.int .i64 qx,.int .i64 qy] 76)).drew
   have hQ1:(World.drew (wr.alloc (.cells #[.int .i64 px,.int .i64 py,.int .i64 qx,.int .i64 qy] 76))).ownsRow w.heap.size 76 4 (.slice B k cb) k (edsV ((List.range k).map (edgeK xs))):=own_below hown ((Below.refl wr.heap.size wr).alloc (Nat.le_refl _) _).drew
   have hQ2:Reads (World.drew (wr.alloc (.cells #[.int .i64 px,.int .i64 py,.int .i64 qx,.int .i64 qy] 76))) (wr.heap.size+1) 4 (some ⟨wr.heap.size,0,none⟩) 1 (edsV [ee]):=by
    have h:=Reads.made wr #[.int .i64 px,.int .i64 py,.int .i64 qx,.int .i64 qy] 76 (0,0) 4 1 (edsV [ee]) hev.symm (by rw[hev];rfl)
    have h':=h.drew
    simpa using h'
   have hm1:k+1≤maxLen:=by simp only[maxLen];omega
   have hm2:(k+1)*32≤140737488355328:=by omega
   have hm3:w.heap.size≤(World.drew (wr.alloc (.cells #[.int .i64 px,.int .i64 py,.int .i64 qx,.int .i64 qy] 76))).heap.size:=hBW.size
   have HQ:=Lib.hid (And.intro hQ1 (And.intro hQ2 (And.intro hm1 (And.intro hm2 (And.intro hm3 hBW)))))
   have hP0:=hS0 wr.drew hbel.drew
   have hSA:=hS0 _ hBW
   have HS:=Lib.hid hS0
   clear hQ1 hQ2 hm1 hm2 hm3 hBW hown hS0 hev
   go_wp2_with fail
   go_region_held3 (fun V=>V.cell? (ad.add (k*2))=some (.int .i64 px)∧V.cell? ⟨(ad.add (k*2)).block,(ad.add (k*2)).off+1,none⟩=some (.int .i64 py)∧V.cell? (ad.add (m*2))=some (.int .i64 qx)∧V.cell? ⟨(ad.add (m*2)).block,(ad.add (m*2)).off+1,none⟩=some (.int .i64 qy)∧Below w.heap.size w V)
    (first|with_reducible exact hP0|with_reducible exact hSA|with_reducible assumption)
    (first
      |((refine step_append_any _ (by rfl) (.tmp 11) (.tmp 25) _ (by rfl) w.heap.size 76 i0 _ 4 32 Tryz.underlying71 hi0 hz0 hz1 hz2 (by rfl) (Nat.zero_lt_succ _) (.slice B k cb) k _ (by rfl) HQ.out.1 (wr.heap.size+1) (some ⟨wr.heap.size,0,none⟩) 1 1 (edsV [ee]) (by rfl) HQ.out.2.1 (edsV_one _) HQ.out.2.2.1 HQ.out.2.2.2.1 HQ.out.2.2.2.2.1 ?_);intro v2 wa hown2 hg2 hat2;have hS3:=HS.out wa (HQ.out.2.2.2.2.2.grown hg2 HQ.out.2.2.2.2.1 (fun g hg=>(HQ.out.1.lt g hg).1));rw[←edsV_append,←HT.out]at hown2;obtain⟨A2,c2,rfl⟩:=own_form hown2;try dsimp only))
   all_goals
    clear hP0 hSA
    have H6:=Lib.hid (And.intro hown2 hS3.2.2.2.2)
    clear hown2 hS3 hg2 hat2
    go_wp2_with fail
    go_roundw
    case rel=>exact⟨k+1,by omega,by go_num,⟨A2,c2,rfl,H6.out.1⟩,H6.out.2⟩
    case measure=>simp[intOf];omega
  ·have hkn:k=n:=by omega
   subst hkn
   have HB:=Lib.hid (And.intro hown hbel)
   clear hown hbel
   go_wp2_with fail
   go_ret
   exact⟨B,cb,rfl,HB.out⟩
theorem edgesOf_len (xs:List Pt):(edgesOf xs).length=xs.length:=by simp[edgesOf]
theorem allE_take {ps:List Parc} {k:Nat} (hk:k<ps.length):allE (ps.take (k+1))=allE (ps.take k)++edgesOf (pcAt ps k).ring:=by
 rw[List.take_succ_eq_append_getElem hk,pcAt_lt hk]
 unfold allE
 rw[List.flatMap_append,List.flatMap_singleton]
theorem allE_take_le (ps:List Parc) (k:Nat):(allE (ps.take k)).length≤(allE ps).length:=by
 have h:ps=ps.take k++ps.drop k:=(List.take_append_drop k ps).symm
 have h2:allE ps=allE (ps.take k)++allE (ps.drop k):=by
  conv=>lhs;rw[h]
  unfold allE
  rw[List.flatMap_append]
 rw[h2,List.length_append]
 omega
set_option maxRecDepth 100000 in
set_option maxHeartbeats 1600000 in
theorem allR_any (ps:List Parc) (A:Option Addr) (n cap:Nat) (w:World) (hr:PIn w w.heap.size A n ps) (hn:n≤8796093022208) (ht:(allE ps).length≤1048576):
 Calls Tryz.prog 35 #[.slice A n cap] w fun e w'=>∃A' c,e= .returned (.slice A' (allE ps).length c)∧w'.ownsRow w.heap.size 76 4 (.slice A' (allE ps).length c) (allE ps).length (edsV (allE ps))∧Below w.heap.size w w':=by
 obtain⟨i0,hi0,hz0,hz1,hz2⟩:=info_parts info_ed
 have HR:=Lib.hid (And.intro hr ht)
 clear hr ht
 go_enter Tryz.func35,Tryz.ntmps35
 go_wp2_with fail
 go_loopw [3,4] (fun s i wr=>∃k:Nat,k≤n∧i= .int .i64 (k:Int)∧(∃B m cb,s= .slice B m cb∧m=(allE (ps.take k)).length∧wr.ownsRow w.heap.size 76 4 (.slice B m cb) m (edsV (allE (ps.take k))))∧Below w.heap.size w wr) (fun _ i _=>n-(intOf i).toNat)
 case atStart=>exact⟨0,Nat.zero_le _,rfl,⟨none,0,0,rfl,rfl,by simp[edsV,allE,World.ownsRow_nil]⟩,Below.refl _ _⟩
 case round=>
  obtain⟨k,hk,rfl,⟨B,m,cb,rfl,hm,hown⟩,hbel⟩:=hrel
  by_cases hlt:k<n
  ·have hlt':(k:Int)<(n:Int):=by omega
   have hw1:IntKind.i64.wrap ((k:Int)+1)=(k:Int)+1:=by rw[IntKind.wrap_i64];omega
   have hlk:k<ps.length:=by have:=HR.out.1.1;omega
   obtain⟨ad,rfl⟩:=HR.out.1.some_ (by omega)
   obtain⟨-,p1,⟨Ak,nk,ck,p2,hrk,hk1,hk2⟩,p3⟩:=(HR.out.1.below hbel).at_ hlt
   have htk:=allE_take hlk
   have hle:=allE_take_le ps (k+1)
   rw[htk,List.length_append,edgesOf_len,hrk.lenPt,←hm]at hle
   have hle2:=HR.out.2
   have kE:=Lib.hid (edgesR_any (pcAt ps k).ring Ak nk ck wr (hrk.more hbel.size) (by omega))
   have hm1:m+nk≤maxLen:=by simp only[maxLen];omega
   have hm2:(m+nk)*32≤140737488355328:=by omega
   have hlen2:m+nk=(allE (ps.take (k+1))).length:=by rw[htk,List.length_append,edgesOf_len,hrk.lenPt,hm]
   have HM:=Lib.hid (And.intro hm1 (And.intro hm2 (And.intro hlen2 htk)))
   have HB:=Lib.hid (And.intro hown hbel)
   clear hm1 hm2 hlen2 htk hle hle2 hown hbel hrk p1 p3 hm
   go_wp2_with fail
   refine kE.out.mono ?_
   rintro e w1 ⟨A1,c1,rfl,ho1,hb1⟩
   have hQ1:=own_below HB.out.1 hb1
   have hQ2:=Reads.of_own ho1
   have hQ3:=below_on HB.out.2 (Nat.le_refl _) hb1
   have HQ:=Lib.hid (And.intro hQ1 (And.intro hQ2 hQ3))
   clear hQ1 hQ2 hQ3 ho1 hb1 kE
   go_wp2_with (at_builtin;refine wpList_append_any _ rfl (.tmp 11) (.tmp 17) _ rfl w.heap.size 76 i0 _ 4 32 Tryz.underlying71 hi0 hz0 hz1 hz2 rfl (Nat.zero_lt_succ _) (.slice B m cb) m _ rfl HQ.out.1 w1.heap.size A1 nk c1 _ rfl HQ.out.2.1 (edsV_one _) HM.out.1 HM.out.2.1 HQ.out.2.2.size ?_;intro v6 w6 hown6 hg6 hat6)
   have hB6:Below w.heap.size w w6:=HQ.out.2.2.grown hg6 HQ.out.2.2.size (fun g hg=>(HQ.out.1.lt g hg).1)
   rw[←edsV_append,←HM.out.2.2.2]at hown6
   obtain⟨A6,c6,rfl⟩:=own_form hown6
   have H6:=Lib.hid (And.intro hown6 hB6)
   clear hown6 hB6 hg6 hat6
   go_roundw
   case rel=>exact⟨k+1,by omega,by go_num,⟨A6,m+nk,c6,rfl,HM.out.2.2.1,H6.out.1⟩,H6.out.2⟩
   case measure=>simp[intOf];omega
  ·have hkn:k=n:=by omega
   subst hkn
   have htk:ps.take k=ps:=List.take_of_length_le (by have:=HR.out.1.1;omega)
   rw[htk]at hown hm
   subst hm
   have HB:=Lib.hid (And.intro hown hbel)
   clear hown hbel
   go_wp2_with fail
   go_ret
   exact⟨B,cb,rfl,HB.out⟩
end Go.Proofs.YtpkeacnacjnlcaaGreat
namespace Go.Proofs.YtpkeacnacjnlcaaGreat
open Go.RowKit Go.Lib
def cp (l:List Ed):List Ed:=l.foldl (fun acc x=>if acc.getLast?=some x then acc else acc++[x]) []
theorem cp_snoc (l:List Ed) (x:Ed):cp (l++[x])=if (cp l).getLast?=some x then cp l else cp l++[x]:=by
 unfold cp
 rw[List.foldl_append]
 rfl
theorem take_snocE {d:List Ed} {k:Nat} (h:k<d.length):d.take (k+1)=d.take k++[edAt d k]:=by rw[List.take_succ_eq_append_getElem h,edAt_lt h]
theorem cp_last {d:List Ed}:∀k,k<d.length→(cp (d.take (k+1))).getLast?=some (edAt d k):=by
 intro k
 induction k with
 |zero=>intro h;rw[take_snocE h];simp[cp]
 |succ k ih=>
  intro h
  rw[take_snocE h,cp_snoc,ih (by omega)]
  split
  ·rename_i h'
   rw[ih (by omega),h']
  ·simp
theorem cp_step {d:List Ed} {k:Nat} (h:k+1<d.length):cp (d.take (k+2))=if edAt d (k+1)=edAt d k then cp (d.take (k+1))else cp (d.take (k+1))++[edAt d (k+1)]:=by
 rw[take_snocE h,cp_snoc,cp_last k (by omega)]
 by_cases e:edAt d (k+1)=edAt d k
 ·rw[if_pos (by rw[e]),if_pos e]
 ·rw[if_neg (fun h'=>e (Option.some.inj h').symm),if_neg e]
theorem cp_plain {d:List Ed}:∀k,k≤d.length→(∀j,1≤j→j<k→edAt d j≠edAt d (j-1))→cp (d.take k)=d.take k:=by
 intro k
 induction k with
 |zero=>intro _ _;simp[cp]
 |succ k ih=>
  intro hk hj
  rcases Nat.eq_zero_or_pos k with h0|h0
  ·subst h0;rw[take_snocE (by omega)];simp[cp]
  ·obtain⟨m,rfl⟩:∃m,k=m+1:=⟨k-1,by omega⟩
   rw[cp_step (by omega),if_neg (by have:=hj (m+1) (by omega) (by omega);simpa using this),ih (by omega) (fun j h1 h2=>hj j h1 (by omega)),←take_snocE (by omega)]
def RowM (W:World) (g:Nat) (M:List Ed):Prop:=∀j u,(edsV M)[j]?=some u→W.cell? ⟨g,j,none⟩=some u∧W.frozen? ⟨g,j,none⟩=false
theorem RowM.own {w:World} {base:Nat} {t:TypeId} {g n cap:Nat} {d:List Ed} (h:w.ownsRow base t 4 (.slice (some ⟨g,0,none⟩) n cap) n (edsV d)):RowM w g d:=fun j u hu=>by
 have hj:j<n*4:=by have:=(List.getElem?_eq_some_iff.1 hu).1;rw[h.1]at this;exact this
 exact⟨by rw[h.cellAt j hj];exact hu,h.frozenAt j⟩
theorem RowM.at_ {W:World} {g:Nat} {M:List Ed} (h:RowM W g M) {k:Nat} (hk:k<M.length):
 (W.cell? ⟨g,k*4,none⟩=some (.int .i64 (edAt M k).a.x)∧W.cell? ⟨g,k*4+1,none⟩=some (.int .i64 (edAt M k).a.y)∧W.cell? ⟨g,k*4+2,none⟩=some (.int .i64 (edAt M k).b.x)∧W.cell? ⟨g,k*4+3,none⟩=some (.int .i64 (edAt M k).b.y))∧
 (W.frozen? ⟨g,k*4,none⟩=false∧W.frozen? ⟨g,k*4+1,none⟩=false∧W.frozen? ⟨g,k*4+2,none⟩=false∧W.frozen? ⟨g,k*4+3,none⟩=false):=by
 obtain⟨h1,h2,h3,h4⟩:=edsV_get hk
 exact⟨⟨(h _ _ h1).1,(h _ _ h2).1,(h _ _ h3).1,(h _ _ h4).1⟩,(h _ _ h1).2,(h _ _ h2).2,(h _ _ h3).2,(h _ _ h4).2⟩
theorem sc_ne (W:World) (g:Nat) {i j:Nat} (h:i≠j) (u:Value):(W.setCell ⟨g,i,none⟩ u).cell? ⟨g,j,none⟩=W.cell? ⟨g,j,none⟩:=by
 first
  |exact World.cell?_setCell_other _ _ _ _ (fun e=>h (congrArg Addr.off e))
  |exact World.cell?_setCell_other _ _ _ _ (fun e=>h (congrArg Addr.off e).symm)
  |exact World.cell?_setCell_other (fun e=>h (congrArg Addr.off e))
theorem sc_eq (W:World) (g:Nat) {i:Nat} {x:Value} (h:W.cell? ⟨g,i,none⟩=some x) (u:Value):(W.setCell ⟨g,i,none⟩ u).cell? ⟨g,i,none⟩=some u:=by
 first
  |exact World.cell?_setCell_same _ _ _ h
  |exact World.cell?_setCell_same h
theorem RowM.put {W:World} {g:Nat} {M:List Ed} (h:RowM W g M) {k:Nat} (hk:k<M.length) (e:Ed):
 RowM ((((W.setCell ⟨g,k*4,none⟩ (.int .i64 e.a.x)).setCell ⟨g,k*4+1,none⟩ (.int .i64 e.a.y)).setCell ⟨g,k*4+2,none⟩ (.int .i64 e.b.x)).setCell ⟨g,k*4+3,none⟩ (.int .i64 e.b.y)) g (M.set k e):=by
 obtain⟨⟨c1,c2,c3,c4⟩,-⟩:=h.at_ hk
 intro j u hu
 obtain⟨hj,rfl⟩:=edsV_at hu
 have hjl:j/4<M.length:=by simpa using hj
 have hold:(edsV M)[j]?=some ((encEL M[j/4])[j%4]!):=by
  have h1:j<(edsV M).length:=by rw[edsV_length];omega
  obtain⟨h2,h3⟩:=edsV_at (List.getElem?_eq_getElem h1)
  rw[List.getElem?_eq_getElem h1,h3]
 refine⟨?_,by simp only[World.frozen?_setCell];exact(h _ _ hold).2⟩
 by_cases hjk:j/4=k
 ·have hm:j%4=0∨j%4=1∨j%4=2∨j%4=3:=by omega
  have hset:(M.set k e)[j/4]'hj=e:=by simp[hjk]
  rw[hset]
  rcases hm with hm|hm|hm|hm
  ·have:j=k*4:=by omega
   subst this
   rw[sc_ne _ _ (by omega),sc_ne _ _ (by omega),sc_ne _ _ (by omega),sc_eq _ _ c1,hm]
   rfl
  ·have:j=k*4+1:=by omega
   subst this
   rw[sc_ne _ _ (by omega),sc_ne _ _ (by omega),sc_eq _ _ ((sc_ne _ _ (by omega) _).trans c2),hm]
   rfl
  ·have:j=k*4+2:=by omega
   subst this
   rw[sc_ne _ _ (by omega),sc_eq _ _ ((sc_ne _ _ (by omega) _).trans ((sc_ne _ _ (by omega) _).trans c3)),hm]
   rfl
  ·have:j=k*4+3:=by omega
   subst this
   rw[sc_eq _ _ ((sc_ne _ _ (by omega) _).trans ((sc_ne _ _ (by omega) _).trans ((sc_ne _ _ (by omega) _).trans c4))),hm]
   rfl
 ·have hset:(M.set k e)[j/4]'hj=M[j/4]:=by rw[List.getElem_set_ne (fun h=>hjk h.symm)]
  rw[hset,sc_ne _ _ (by omega),sc_ne _ _ (by omega),sc_ne _ _ (by omega),sc_ne _ _ (by omega)]
  exact(h _ _ hold).1
theorem reads_rowM {W:World} {g m:Nat} {M L:List Ed} (h:RowM W g M) (hg:g<W.heap.size) (hm:m≤M.length) (hL:M.take m=L):Reads W W.heap.size 4 (some ⟨g,0,none⟩) m (edsV L):=by
 subst hL
 refine⟨by rw[edsV_length,List.length_take];omega,fun _=>⟨_,rfl,hg,fun j u hu=>?_⟩⟩
 rw[add_row]
 refine(h j u ?_).1
 have e:edsV M=edsV (M.take m)++edsV (M.drop m):=by rw[←edsV_append,List.take_append_drop]
 rw[e,List.getElem?_append_left (List.getElem?_eq_some_iff.1 hu).1]
 exact hu
theorem grownBy_drewN (w:World) (q:Nat) (row:Option Nat):w.grownBy (w.drewN q) row:=⟨rfl,rfl,rfl,Nat.le_refl _,fun _ _ _=>rfl⟩
theorem neqEd_runs (e f:Ed) (w:World):Sem.run Tryz.prog (binOp .neq 76 (encE e) (encE f)) w= .ok (.bool (!decide (e=f))) w:=by
 have h:=eq_ed 9997 e f w
 unfold encE at *
 rw[run_neq_struct,show(10000:Nat)=9997+3 from rfl,h]
 rfl
theorem grownBy_setC (w:World) (g i:Nat) (u:Value):w.grownBy (w.setCell ⟨g,i,none⟩ u) (some g):=
 ⟨rfl,rfl,rfl,by simp[World.setCell],fun k _ hne=>Below.heap_setCell _ _ _ _ (fun e=>hne (by rw[e]))⟩
theorem grownBy_setCs (g:Nat):∀(vs:List Value) (o:Nat) (w:World),w.grownBy (w.setCells g o vs) (some g)
 |[],_,_=>⟨rfl,rfl,rfl,Nat.le_refl _,fun _ _ _=>rfl⟩
 |v::vs,o,w=>by
  rw[World.setCells]
  exact(grownBy_setC w g o v).trans (grownBy_setCs g vs (o+1) _)
theorem take_setE {M:List Ed} {m:Nat} {e:Ed} (h:m<M.length):(M.set m e).take (m+1)=M.take m++[e]:=by
 rw[List.take_succ_eq_append_getElem (by simpa using h),List.getElem_set_self,List.take_set,List.set_eq_of_length_le (by rw[List.length_take];omega)]
theorem edAt_set_ne {M:List Ed} {m j:Nat} {e:Ed} (h:m≠j):edAt (M.set m e) j=edAt M j:=by
 unfold edAt
 rw[List.getElem?_set_ne h]
set_option maxRecDepth 100000 in
set_option maxHeartbeats 3200000 in
theorem compactEd_any (d:List Ed) (g n cap base:Nat) (w:World) (hown:w.ownsRow base 76 4 (.slice (some ⟨g,0,none⟩) n cap) n (edsV d)) (hn:n≤1048576) (h2:2≤n):
 Calls Tryz.prog 148 #[.slice (some ⟨g,0,none⟩) n cap] w fun e w'=>∃m,e= .returned (.slice (some ⟨g,0,none⟩) m cap)∧m=(cp d).length∧Reads w' w'.heap.size 4 (some ⟨g,0,none⟩) m (edsV (cp d))∧w.grownBy w' (some g):=by
 have hl:d.length=n:=by have h:=hown.1;rw[edsV_length]at h;omega
 have hcap:=own_cap hown
 have hgl:g<w.heap.size:=(hown.lt g rfl).2
 have hM:=RowM.own hown
 have h2':¬(n:Int)<2:=by omega
 have HM:=Lib.hid (And.intro hM hl)
 clear hown hM hl
 go_enter Tryz.func148,Tryz.ntmps148
 go_wp2_with fail
 go_loopw [3] (fun i wr=>∃k:Nat,1≤k∧k≤n∧i= .int .i64 (k:Int)∧Hid (∀j,1≤j→j<k→edAt d j≠edAt d (j-1))∧∃q,wr=w.drewN q) (fun i _=>n-(intOf i).toNat)
 case atStart=>exact⟨1,Nat.le_refl _,by omega,rfl,fun j h1 h2=>absurd h2 (by omega),0,rfl⟩
 case round=>
  obtain⟨k,hk1,hk,rfl,HJ,q,rfl⟩:=hrel
  by_cases hlt:k<n
  ·have hlt':(k:Int)<(n:Int):=by omega
   have hw0:IntKind.i64.wrap ((k:Int)-1)=((k-1:Nat):Int):=by rw[IntKind.wrap_i64];omega
   have hw1:IntKind.i64.wrap ((k:Int)+1)=(k:Int)+1:=by rw[IntKind.wrap_i64];omega
   have hlt0:((k-1:Nat):Int)<(n:Int):=by omega
   obtain⟨⟨p1,p2,p3,p4⟩,-⟩:=HM.out.1.at_ (k:=k) (by have:=HM.out.2;omega)
   obtain⟨⟨q1,q2,q3,q4⟩,-⟩:=HM.out.1.at_ (k:=k-1) (by have:=HM.out.2;omega)
   obtain⟨V,hV⟩:∃V,V=w.drewN q:=⟨_,rfl⟩
   rw[show w.cell? ⟨g,k*4,none⟩=V.cell? ⟨g,k*4,none⟩ by rw[hV];rfl]at p1
   rw[show w.cell? ⟨g,k*4+1,none⟩=V.cell? ⟨g,k*4+1,none⟩ by rw[hV];rfl]at p2
   rw[show w.cell? ⟨g,k*4+2,none⟩=V.cell? ⟨g,k*4+2,none⟩ by rw[hV];rfl]at p3
   rw[show w.cell? ⟨g,k*4+3,none⟩=V.cell? ⟨g,k*4+3,none⟩ by rw[hV];rfl]at p4
   rw[show w.cell? ⟨g,(k-1)*4,none⟩=V.cell? ⟨g,(k-1)*4,none⟩ by rw[hV];rfl]at q1
   rw[show w.cell? ⟨g,(k-1)*4+1,none⟩=V.cell? ⟨g,(k-1)*4+1,none⟩ by rw[hV];rfl]at q2
   rw[show w.cell? ⟨g,(k-1)*4+2,none⟩=V.cell? ⟨g,(k-1)*4+2,none⟩ by rw[hV];rfl]at q3
   rw[show w.cell? ⟨g,(k-1)*4+3,none⟩=V.cell? ⟨g,(k-1)*4+3,none⟩ by rw[hV];rfl]at q4
   have HV:=Lib.hid hV
   rw[←hV]
   clear hV
   obtain⟨j,hj⟩:∃j,j=k-1:=⟨_,rfl⟩
   rw[←hj]at hw0 hlt0 q1 q2 q3 q4
   have he:=fun W=>(eqEd_runs .eql (.tmp 0) (.tmp 0) (edAt d k) (edAt d j) W).1
   have hg:=fun op a b W=>eqGuard_ed op a b (edAt d k) (edAt d j) W
   unfold encE at he hg
   obtain⟨P,hP⟩:∃P,P=edAt d k:=⟨_,rfl⟩
   obtain⟨Q,hQ⟩:∃Q,Q=edAt d j:=⟨_,rfl⟩
   rw[←hP]at p1 p2 p3 p4 he hg
   rw[←hQ]at q1 q2 q3 q4 he hg
   have HPQ:=Lib.hid (And.intro hP (And.intro hQ hj))
   clear hP hQ hj
   by_cases hpq:P=Q
   ·rw[decide_eq_true hpq]at he
    have HE:=Lib.hid hpq
    clear hpq
    go_wp2_with fail
    go_quiet (fail)
    go_wp2_with fail
    have hR0:RowM (V.drewN nq) g d:=by rw[HV.out];exact HM.out.1
    have hG0:w.grownBy (V.drewN nq) (some g):=by rw[HV.out,World.drewN_drewN];exact grownBy_drewN w _ _
    have hdl:=HM.out.2
    have hc0:d.take k=cp (d.take (k+1)):=by
     have h1:=cp_plain k (by omega) HJ.out
     obtain⟨i,hi⟩:∃i,k=i+1:=⟨k-1,by omega⟩
     have hpe:edAt d (i+1)=edAt d i:=by
      have h3:=HPQ.out.2.2
      rw[←hi,show i=j by omega,←HPQ.out.1,←HPQ.out.2.1]
      exact HE.out
     rw[hi]at h1 ⊢
     rw[cp_step (by omega),if_pos hpe,h1]
    have H0:=Lib.hid (And.intro hR0 (And.intro hG0 hc0))
    generalize V.drewN nq=W0 at *
    clear hR0 hG0 hc0 p1 p2 p3 p4 q1 q2 q3 q4 he hg hw0 hw1 hlt0 HE HPQ
    go_loopw [3,5] (fun i k2 wx=>∃(m t:Nat) (M:List Ed),1≤t∧k+t≤n∧k2= .int .i64 (t:Int)∧i= .int .i64 (m:Int)∧m+1≤k+t∧M.length=n∧Hid (m=(cp (d.take (k+t))).length∧M.take m=cp (d.take (k+t))∧∀i,k+t-1≤i→i<n→edAt M i=edAt d i)∧RowM wx g M∧w.grownBy wx (some g)) (fun _ k2 _=>n-(intOf k2).toNat)
    case atStart=>
     refine⟨k,1,d,Nat.le_refl _,by omega,rfl,rfl,Nat.le_refl _,hdl,⟨?_,H0.out.2.2,fun _ _ _=>rfl⟩,H0.out.1,H0.out.2.1⟩
     rw[←H0.out.2.2,List.length_take]
     omega
    case round=>
     clear H0
     obtain⟨m,t,M,ht1,htn,rfl,rfl,hmt,hMl,HI,hR,hG⟩:=hrel
     by_cases hlt2:t<n-k
     ·have g1:(t:Int)<((n-k:Nat):Int):=by omega
      have hw0:IntKind.i64.wrap ((t:Int)-1)=((t-1:Nat):Int):=by rw[IntKind.wrap_i64];omega
      have hw1:IntKind.i64.wrap ((t:Int)+1)=(t:Int)+1:=by rw[IntKind.wrap_i64];omega
      have hw2:IntKind.i64.wrap ((m:Int)+1)=(m:Int)+1:=by rw[IntKind.wrap_i64];omega
      have g2:((t-1:Nat):Int)<((n-k:Nat):Int):=by omega
      have g3:(m:Int)<(n:Int):=by omega
      obtain⟨⟨p1,p2,p3,p4⟩,-⟩:=hR.at_ (k:=k+t) (by omega)
      obtain⟨⟨q1,q2,q3,q4⟩,-⟩:=hR.at_ (k:=k+(t-1)) (by omega)
      obtain⟨⟨m1,m2,m3,m4⟩,f1,f2,f3,f4⟩:=hR.at_ (k:=m) (by omega)
      rw[HI.out.2.2 (k+t) (by omega) (by omega)]at p1 p2 p3 p4
      rw[HI.out.2.2 (k+(t-1)) (by omega) (by omega)]at q1 q2 q3 q4
      rw[Nat.add_mul]at p1 p2 p3 p4 q1 q2 q3 q4
      have hst:=cp_step (d:=d) (k:=k+(t-1)) (by omega)
      rw[show k+(t-1)+2=k+(t+1) by omega,show k+(t-1)+1=k+t by omega]at hst
      obtain⟨P2,hP2⟩:∃P2,P2=edAt d (k+t):=⟨_,rfl⟩
      obtain⟨Q2,hQ2⟩:∃Q2,Q2=edAt d (k+(t-1)):=⟨_,rfl⟩
      have he:=fun W=>neqEd_runs (edAt d (k+t)) (edAt d (k+(t-1))) W
      have hg:=fun op a b W=>eqGuard_ed op a b (edAt d (k+t)) (edAt d (k+(t-1))) W
      rw[←hP2]at p1 p2 p3 p4 he hg hst
      rw[←hQ2]at q1 q2 q3 q4 he hg hst
      have HPP:=Lib.hid hP2
      have HST:=Lib.hid hst
      obtain⟨j2,hj2⟩:∃j2,j2=t-1:=⟨_,rfl⟩
      rw[←hj2]at hw0 g2 q1 q2 q3 q4
      have HRG:=Lib.hid (And.intro hR (And.intro hG hMl))
      clear hP2 hQ2 hst hj2 hR hG
      unfold encE at he hg
      by_cases hpq:P2=Q2
      ·rw[decide_eq_true hpq]at he
       have HI2:Hid (m=(cp (d.take (k+(t+1)))).length∧M.take m=cp (d.take (k+(t+1)))∧∀i,k+(t+1)-1≤i→i<n→edAt M i=edAt d i):=by
        have h1:=HST.out
        rw[if_pos hpq]at h1
        rw[h1]
        exact⟨HI.out.1,HI.out.2.1,fun i h2 h3=>HI.out.2.2 i (by omega) h3⟩
       clear hpq m1 m2 m3 m4 f1 f2 f3 f4
       go_wp2_with fail
       go_quiet (fail)
       go_wp2_with fail
       go_roundw
       case rel=>exact⟨m,t+1,M,by omega,by omega,by go_num,rfl,by omega,HRG.out.2.2,HI2.out,HRG.out.1,HRG.out.2.1.trans (grownBy_drewN _ _ _)⟩
       case measure=>simp[intOf];omega
      ·rw[decide_eq_false hpq]at he
       have HI2:Hid (m+1=(cp (d.take (k+(t+1)))).length∧(M.set m P2).take (m+1)=cp (d.take (k+(t+1)))∧∀i,k+(t+1)-1≤i→i<n→edAt (M.set m P2) i=edAt d i):=by
        have h1:=HST.out
        rw[if_neg hpq]at h1
        rw[h1]
        refine⟨by rw[List.length_append,←HI.out.1];rfl,by rw[take_setE (by omega),HI.out.2.1],fun i h2 h3=>?_⟩
        rw[edAt_set_ne (by omega)]
        exact HI.out.2.2 i (by omega) h3
       clear hpq
       go_wp2_with fail
       go_quiet (fail)
       go_wp2_with fail
       go_roundw
       case rel=>exact⟨m+1,t+1,M.set m P2,by omega,by omega,by go_num,by go_num,by omega,by rw[List.length_set];exact HRG.out.2.2,HI2.out,RowM.put (W:=wr.drewN _) HRG.out.1 (by have:=HRG.out.2.2;omega) P2,HRG.out.2.1.trans ((grownBy_drewN _ _ _).trans ((grownBy_setC _ _ _ _).trans ((grownBy_setC _ _ _ _).trans ((grownBy_setC _ _ _ _).trans (grownBy_setC _ _ _ _)))))⟩
       case measure=>simp[intOf];omega
     ·have htk:k+t=n:=by omega
      have htk2:t=n-k:=by omega
      have g1:¬(t:Int)<((n-k:Nat):Int):=by omega
      have e1:(m:Int)≤(n:Int):=by omega
      have e2:(n:Int)≤(cap:Int):=by omega
      have e3:¬cap=m:=by omega
      have e4:(m:Int)≤(cap:Int):=by omega
      have e5:¬(m:Int)<0:=by omega
      have e6:m≤n:=by omega
      have e7:m≤cap:=by omega
      have hzl:(Builtin.zeroCells #[.int .i64 0,.int .i64 0,.int .i64 0,.int .i64 0] (n-m)).toList.length=(n-m)*4:=by simp[Builtin.zeroCells]
      have hz1:∀v∈(Builtin.zeroCells #[.int .i64 0,.int .i64 0,.int .i64 0,.int .i64 0] (n-m)).toList,v.oneCell'=true:=by
       intro v hv
       simp only[Builtin.zeroCells,Array.toList_map,List.mem_map]at hv
       obtain⟨i,-,rfl⟩:=hv
       have:i%4=0∨i%4=1∨i%4=2∨i%4=3:=by omega
       rcases this with h|h|h|h<;>simp[h]<;>rfl
      have hrow:∀j,j<(n-m)*4→(wr.cell? ⟨g,m*4+0+j,none⟩).isSome=true∧wr.frozen? ⟨g,m*4+0+j,none⟩=false:=fun j hj=>by
       have hlt:m*4+0+j<(edsV M).length:=by rw[edsV_length,hMl];omega
       have h:=hR _ _ (List.getElem?_eq_getElem hlt)
       exact⟨by rw[h.1];rfl,h.2⟩
      obtain⟨zs,hzs⟩:∃zs,zs=(Builtin.zeroCells #[.int .i64 0,.int .i64 0,.int .i64 0,.int .i64 0] (n-m)).toList:=⟨_,rfl⟩
      rw[←hzs]at hzl hz1
      have hst:=run_storeCells_cells (P:=Tryz.prog) g (m*4) zs 0 wr (fun j hj=>(hrow j (by omega)).1) (fun j hj=>(hrow j (by omega)).2) hz1
      have hcl:∀ty,Sem.run Tryz.prog (Builtin.clear_ #[71] ty #[.slice (some ⟨g,m*4,none⟩) (n-m) (cap-m)]) wr= .ok (.tuple #[]) (wr.setCells g (m*4) zs):=fun ty=>by
       rw[Nat.add_zero]at hst
       obtain⟨r,hr⟩:∃r,n-m=r+1:=⟨n-m-1,by omega⟩
       rw[hr]at hzs ⊢
       have hzv:=Tryz.zeroValue76
       simp[Builtin.clear_,run_underlying Tryz.underlying71,hzv,Value.cells,←hzs,hst]
      have HF:=Lib.hid (And.intro hzl (And.intro hR (And.intro hG (And.intro hMl HI.out))))
      clear hst hrow hz1 hzs hzl hR hG hMl
      go_wp2_with fail
      go_ret
      obtain⟨hzl,hR,hG,hMl,hI1,hI2,-⟩:=HF.out
      rw[htk]at hI1 hI2
      have hdl2:d.take n=d:=List.take_of_length_le (by omega)
      rw[hdl2]at hI1 hI2
      refine⟨m,rfl,hI1,?_,hG.trans (grownBy_setCs g zs (m*4) wr)⟩
      refine⟨by rw[edsV_length,←hI1],fun _=>⟨_,rfl,?_,fun j u hu=>?_⟩⟩
      ·exact Nat.lt_of_lt_of_le hgl (hG.trans (grownBy_setCs g zs (m*4) wr)).size
      ·have hj:j<m*4:=by have:=(List.getElem?_eq_some_iff.1 hu).1;rw[edsV_length,←hI1]at this;exact this
       rw[add_row,World.cell?_setCells_out g zs (m*4) wr ⟨g,j,none⟩ (fun _ _=> .inl hj)]
       refine(hR j u ?_).1
       have e:edsV M=edsV (M.take m)++edsV (M.drop m):=by rw[←edsV_append,List.take_append_drop]
       rw[e,List.getElem?_append_left (by rw[edsV_length,List.length_take];omega),hI2]
       exact hu
   ·rw[decide_eq_false hpq]at he
    have HJ2:Hid (∀i,1≤i→i<k+1→edAt d i≠edAt d (i-1)):=fun i h1 h2=>by
     by_cases hik:i=k
     ·rw[hik,←HPQ.out.1,←HPQ.out.2.2,←HPQ.out.2.1];exact hpq
     ·exact HJ.out i h1 (by omega)
    clear hpq
    go_wp2_with fail
    go_quiet (fail)
    go_wp2_with fail
    go_roundw
    case rel=>exact⟨k+1,by omega,by omega,by go_num,HJ2.out,q+_,by rw[HV.out,World.drewN_drewN]⟩
    case measure=>simp[intOf];omega
  ·have hkn:k=n:=by omega
   subst hkn
   have HC:Hid (cp d=d):=by
    have h1:=cp_plain k (by have:=HM.out.2;omega) HJ.out
    rw[List.take_of_length_le (by have:=HM.out.2;omega)]at h1
    exact h1
   go_wp2_with fail
   go_ret
   exact⟨k,rfl,by rw[HC.out];exact HM.out.2.symm,reads_rowM (W:=w.drewN q) HM.out.1 hgl (by have:=HM.out.2;omega) (by rw[HC.out];exact List.take_of_length_le (by have:=HM.out.2;omega)),grownBy_drewN w q _⟩
end Go.Proofs.YtpkeacnacjnlcaaGreat
namespace Go.Proofs.YtpkeacnacjnlcaaGreat
theorem orI_first {a b:Int} (h:a<0):orI a b<0:=by unfold orI;split<;>omega
theorem cmpE_first {e f:Ed} (h:¬cmpE f e<0):ordI e.a f.a≤0:=by
 apply Classical.byContradiction
 intro h'
 exact h (orI_first (ordI_anti (by omega)))
theorem ed_ext {e f:Ed} (h1:e.a.x=f.a.x) (h2:e.a.y=f.a.y) (h3:e.b.x=f.b.x) (h4:e.b.y=f.b.y):e=f:=by
 obtain⟨⟨a,b⟩,⟨c,d⟩⟩:=e
 obtain⟨⟨a',b'⟩,⟨c',d'⟩⟩:=f
 simp only at h1 h2 h3 h4
 subst h1;subst h2;subst h3;subst h4;rfl
theorem cmpE_both {e f:Ed} (h:¬cmpE f e<0) (h':¬cmpE e f<0):e=f:=by
 rw[cmpE_neg]at h h'
 exact ed_ext (by omega) (by omega) (by omega) (by omega)
theorem cmpE_trans {e f g:Ed} (h:¬cmpE f e<0) (h':¬cmpE g f<0):¬cmpE g e<0:=by
 rw[cmpE_neg]at *
 omega
theorem edAt_mem {d:List Ed} {k:Nat} (h:k<d.length):edAt d k∈d:=by rw[edAt_lt h];exact List.getElem_mem h
theorem mem_takeE {d:List Ed} {k:Nat} {e:Ed} (h:e∈d.take k):∃i,i<k∧i<d.length∧e=edAt d i:=by
 obtain⟨i,hi,rfl⟩:=List.getElem_of_mem h
 rw[List.length_take]at hi
 exact⟨i,by omega,by omega,by rw[edAt_lt (by omega),List.getElem_take]⟩
theorem takeE_mem {d:List Ed} {k i:Nat} (h:i<k) (h':i<d.length):edAt d i∈d.take k:=by
 rw[edAt_lt h',List.mem_take_iff_getElem]
 exact⟨i,by omega,rfl⟩
theorem sorted_at {d:List Ed} (hs:d.Pairwise (fun e f=>¬cmpE f e<0)) {i j:Nat} (hij:i≤j) (hj:j<d.length):¬cmpE (edAt d j) (edAt d i)<0:=by
 rcases Nat.lt_or_eq_of_le hij with h|h
 ·rw[edAt_lt hj,edAt_lt (by omega:i<d.length)]
  exact List.pairwise_iff_getElem.1 hs i j (by omega) hj h
 ·subst h
  rw[cmpE_neg]
  omega
theorem cp_take {d:List Ed}:∀k,k≤d.length→(∀x,x∈cp (d.take k)↔x∈d.take k)∧(d.Pairwise (fun e f=>¬cmpE f e<0)→(cp (d.take k)).Pairwise fun e f=>e≠f∧ordI e.a f.a≤0):=by
 intro k
 induction k with
 |zero=>intro _;simp[cp]
 |succ k ih=>
  intro hk
  obtain⟨ih1,ih2⟩:=ih (by omega)
  rcases Nat.eq_zero_or_pos k with h0|h0
  ·subst h0
   rw[take_snocE (by omega)]
   simp[cp]
  ·obtain⟨j,rfl⟩:∃j,k=j+1:=⟨k-1,by omega⟩
   rw[cp_step (by omega)]
   by_cases he:edAt d (j+1)=edAt d j
   ·rw[if_pos he]
    refine⟨fun x=>?_,ih2⟩
    rw[ih1,take_snocE (by omega:j+1<d.length),List.mem_append,List.mem_singleton,he]
    constructor
    ·exact .inl
    ·rintro(h|rfl)
     ·exact h
     ·exact takeE_mem (by omega) (by omega)
   ·rw[if_neg he]
    refine⟨fun x=>?_,fun hs=>?_⟩
    ·rw[take_snocE (by omega:j+1<d.length),List.mem_append,List.mem_append,ih1]
    ·rw[List.pairwise_append]
     refine⟨ih2 hs,List.pairwise_singleton _ _,fun e hm f hf=>?_⟩
     rw[List.mem_singleton]at hf
     subst hf
     obtain⟨i,hi1,hi2,rfl⟩:=mem_takeE ((ih1 e).1 hm)
     have h1:=sorted_at hs (show i≤j by omega) (by omega)
     have h2:=sorted_at hs (show j≤j+1 by omega) (by omega)
     refine⟨fun h=>he ?_,cmpE_first (cmpE_trans h1 h2)⟩
     rw[h]at h1
     exact cmpE_both h1 h2
theorem cp_all {d:List Ed}:(∀x,x∈cp d↔x∈d)∧(d.Pairwise (fun e f=>¬cmpE f e<0)→(cp d).Pairwise fun e f=>e≠f∧ordI e.a f.a≤0):=by
 have h:=cp_take (d:=d) d.length (Nat.le_refl _)
 rw[List.take_length]at h
 exact h
/-- The edges of a plan, turned up. -/
def normE (ps:List Parc):List Ed:=(allE ps).map Ed.norm
theorem good_norm {e:Ed} (h:good e.a=true∧good e.b=true):good e.norm.a=true∧good e.norm.b=true:=by
 rcases e.norm_or with h1|h1<;>rw[h1]
 ·exact h
 ·exact⟨h.2,h.1⟩
theorem clean_law {ps:List Parc} {d:List Ed} (hp:d.Perm (normE ps)) (hs:d.Pairwise (fun e f=>¬cmpE f e<0)) (hn:(allE ps).Nodup) (hd:∀e∈allE ps,e.a≠e.b) (hg:∀e∈allE ps,good e.a=true∧good e.b=true):
 (SweepE (cp d)↔PairsE (allE ps))∧(∀e∈cp d,good e.a=true∧good e.b=true)∧(cp d).Pairwise fun e f=>e≠f∧ordI e.a f.a≤0:=by
 have hm:∀e,e∈cp d↔∃f∈allE ps,e=f.norm:=fun e=>by
  rw[cp_all.1,hp.mem_iff]
  unfold normE
  rw[List.mem_map]
  constructor
  ·rintro⟨f,h1,h2⟩;exact⟨f,h1,h2.symm⟩
  ·rintro⟨f,h1,h2⟩;exact⟨f,h1,h2.symm⟩
 refine⟨sweep_iff hn hd hg hm (cp_all.2 hs),fun e he=>?_,cp_all.2 hs⟩
 obtain⟨f,hf,rfl⟩:=(hm e).1 he
 exact good_norm (hg f hf)
theorem cp_len (d:List Ed):(cp d).length≤d.length:=by
 have h:∀k,k≤d.length→(cp (d.take k)).length≤k:=by
  intro k
  induction k with
  |zero=>intro _;simp[cp]
  |succ k ih=>
   intro hk
   have:=ih (by omega)
   rw[take_snocE (by omega),cp_snoc]
   split
   ·omega
   ·rw[List.length_append,List.length_singleton];omega
 have:=h d.length (Nat.le_refl _)
 rw[List.take_length]at this
 exact this
def SwTo (L:List Ed) (k:Nat):Prop:=∀i j,i<k→i<j→j<L.length→(∀q,i<q→q≤j→(edAt L q).a.x≤(edAt L i).b.x)→apartB (edAt L i) (edAt L j)=true
def InTo (L:List Ed) (k t:Nat):Prop:=∀q,k<q→q<k+1+t→(edAt L q).a.x≤(edAt L k).b.x∧apartB (edAt L k) (edAt L q)=true
theorem swTo_iff {L:List Ed}:SweepE L↔SwTo L L.length:=by
 constructor
 ·intro h i j hi hij hj hq
  rw[edAt_lt hi,edAt_lt hj]
  refine h i j hi hj hij fun q hql h1 h2=>?_
  have:=hq q h1 h2
  rw[edAt_lt hi,edAt_lt hql]at this
  exact this
 ·intro h i j hi hj hij hq
  have:=h i j hi hij hj fun q h1 h2=>by
   rw[edAt_lt hi,edAt_lt (by omega:q<L.length)]
   exact hq q (by omega) h1 h2
  rw[edAt_lt hi,edAt_lt hj]at this
  exact this
theorem swTo_next {L:List Ed} {k t:Nat} (h:SwTo L k) (hi:InTo L k t) (he:k+1+t=L.length∨(k+1+t<L.length∧(edAt L k).b.x<(edAt L (k+1+t)).a.x)):SwTo L (k+1):=by
 intro i j h1 h2 h3 h4
 rcases Nat.lt_or_ge i k with h5|h5
 ·exact h i j h5 h2 h3 h4
 ·obtain rfl:i=k:=by omega
  rcases Nat.lt_or_ge j (i+1+t)with h6|h6
  ·exact(hi j h2 h6).2
  ·rcases he with he|⟨he,hx⟩
   ·omega
   ·have:=h4 (i+1+t) (by omega) h6
    omega
theorem inTo_zero (L:List Ed) (k:Nat):InTo L k 0:=fun q h1 h2=>by omega
theorem inTo_next {L:List Ed} {k t:Nat} (hi:InTo L k t) (h1:(edAt L (k+1+t)).a.x≤(edAt L k).b.x) (h2:apartB (edAt L k) (edAt L (k+1+t))=true):InTo L k (t+1):=fun q h3 h4=>by
 rcases Nat.lt_or_ge q (k+1+t)with h5|h5
 ·exact hi q h3 h5
 ·obtain rfl:q=k+1+t:=by omega
  exact⟨h1,h2⟩
theorem sw_fail {L:List Ed} {k t:Nat} (hi:InTo L k t) (hk:k+1+t<L.length) (h1:(edAt L (k+1+t)).a.x≤(edAt L k).b.x) (h2:apartB (edAt L k) (edAt L (k+1+t))=false):¬SweepE L:=fun h=>by
 have:=swTo_iff.1 h k (k+1+t) (by omega) (by omega) hk fun q h3 h4=>by
  rcases Nat.lt_or_ge q (k+1+t)with h5|h5
  ·exact(hi q h3 h5).1
  ·obtain rfl:q=k+1+t:=by omega
   exact h1
 rw[h2]at this
 cases this
end Go.Proofs.YtpkeacnacjnlcaaGreat
namespace Go.Proofs.YtpkeacnacjnlcaaGreat
open Go.RowKit
theorem aroW_ok {xs:List Pt} (hg:goodL xs=true) (k:Nat):good (aroW xs k).low=true∧good (aroW xs k).high=true∧(aroW xs k).lx≤(aroW xs k).hx∧(aroW xs k).ly≤(aroW xs k).hy:=by
 induction k with
 |zero=>
  have h:=ptAt_good hg 0
  exact⟨h,h,Int.le_refl _,Int.le_refl _⟩
 |succ k ih=>
  have h:=ptAt_good hg k
  obtain⟨h1,h2,h3,h4⟩:=ih
  rw[good_iff]at h h1 h2 ⊢
  rw[good_iff]
  simp only[Win.low,Win.high]at h1 h2 ⊢
  show((_:Int)≤mn _ _∧_)∧_
  simp only[aroW,mn,mx]
  refine⟨?_,?_,?_,?_⟩
  ·refine⟨?_,?_,?_,?_⟩<;>split<;>omega
  ·refine⟨?_,?_,?_,?_⟩<;>split<;>omega
  ·split<;>split<;>omega
  ·split<;>split<;>omega
theorem aroW_win {xs:List Pt} (hg:goodL xs=true) (k:Nat):winE (aroW xs k)=0∧(aroW xs k).inI:=by
 obtain⟨h1,h2,h3,h4⟩:=aroW_ok hg k
 refine⟨?_,good_in' h1,good_in' h2⟩
 unfold winE
 rw[if_pos (by simp[goodL,h1,h2]),if_neg (by omega)]
theorem ref_span2 {v:Win} (h:winE v=0):refW v 9=spanC v:=by
 obtain⟨⟨g1,g2,g3⟩,g4,g5,g6⟩:=win_good h
 unfold refW spanC
 rw[if_pos h]
 unfold spanW nRow nCol
 exact spanF_eq _ _ _ _ (by omega) (by omega) (by omega) (by omega) (by omega) (by omega)
noncomputable def cellsL (xs:List Pt):List Pt:=if checkI xs=0 then spanC (aroW xs xs.length)else[]
set_option maxHeartbeats 800000 in
theorem cells_any (xs:List Pt) (A:Option Addr) (n cap:Nat) (w:World) (hr:Reads w w.heap.size 2 A n (ptsV xs)) (hn:n≤9223372036854775807) (hx:∀p∈xs,p.inI):
 Calls Tryz.prog 99 #[.slice A n cap] w fun e w'=>∃A' c,e= .returned (.tuple #[.slice A' (cellsL xs).length c,.int .i64 (checkI xs)])∧w'.ownsRow w.heap.size 102 2 (.slice A' (cellsL xs).length c) (cellsL xs).length (ptsV (cellsL xs))∧Below w.heap.size w w':=by
 have hl:xs.length=n:=hr.lenPt
 have kC:=check_any xs A n cap w hr hn hx
 have hcl:cellsL xs=if checkI xs=0 then spanC (aroW xs xs.length)else[]:=rfl
 by_cases hE:checkI xs=0
 ·obtain⟨h1,h2,h3,-⟩:=checkI_zero hE
  obtain⟨hw1,hw2⟩:=aroW_win h2 xs.length
  rw[if_pos hE]at hcl
  rw[hE]at kC
  have kA:∀V,Below w.heap.size w V→Calls Tryz.prog 155 #[.slice A n cap] V fun e V'=>e= .returned (winV (aroW xs xs.length))∧Below V.heap.size V V':=fun V hV=>by
   rw[hl]
   exact around_any xs A n cap V ((hr.below hV).more hV.size) (by omega) (by omega)
  have kS:=fun V=>span_any (aroW xs xs.length) V hw2
  rw[hcl,hE]
  unfold winV at kA kS
  unfold SpanPost at kS
  rw[hw1]at kS
  generalize spanC (aroW xs xs.length)=cs at *
  generalize aroW xs xs.length=v at *
  have HK:=Lib.hid (And.intro kC (And.intro kA kS))
  clear kC kA kS hw1 hw2 h1 h2 h3 hE hcl hx hr hn hl
  go_enter Tryz.func99,Tryz.ntmps99
  go_wp2_with fail
  with_reducible refine HK.out.1.mono ?_
  rintro e w1 ⟨rfl,hb1⟩
  have H1:=Lib.hid hb1
  clear hb1
  go_wp2_with fail
  with_reducible refine(HK.out.2.1 _ H1.out).mono ?_
  rintro e w2 ⟨rfl,hb2⟩
  have H2:=Lib.hid (below_on H1.out (Nat.le_refl _) hb2)
  clear hb2 H1
  go_wp2_with fail
  with_reducible refine(HK.out.2.2 _).mono ?_
  rintro e w3 ⟨A3,c3,rfl,ho3,hb3⟩
  have H3:=Lib.hid (And.intro (own_mono ho3 H2.out.size) (below_on H2.out (Nat.le_refl _) hb3))
  clear hb3 ho3 H2
  go_wp2_with fail
  exact bodyPost_ret (v:= .tuple #[.slice A3 cs.length c3,.int .i64 0]) (by simp[results,Tryz.results99,go_sem]) rfl ⟨A3,c3,rfl,H3.out⟩
 ·rw[if_neg hE]at hcl
  rw[hcl]
  have hne:(checkI xs != 0)=true:=by simpa using hE
  generalize checkI xs=ce at *
  have HK:=Lib.hid kC
  clear kC hE hcl hx hr hn hl
  go_enter Tryz.func99,Tryz.ntmps99
  go_wp2_with fail
  with_reducible refine HK.out.mono ?_
  rintro e w1 ⟨rfl,hb1⟩
  clear HK
  go_wp2_with fail
  exact bodyPost_ret (v:= .tuple #[.slice none 0 0,.int .i64 ce]) (by simp[results,Tryz.results99,go_sem]) rfl ⟨none,0,rfl,World.ownsRow_nil _ _ _ _,hb1⟩
end Go.Proofs.YtpkeacnacjnlcaaGreat
namespace Go.Proofs.YtpkeacnacjnlcaaGreat
/-- The ring with a corner more behind the k-th. -/
def mark (k:Nat) (p:Pt) (xs:List Pt):List Pt:=xs.take (k+1)++[p]++xs.drop (k+1)
end Go.Proofs.YtpkeacnacjnlcaaGreat
