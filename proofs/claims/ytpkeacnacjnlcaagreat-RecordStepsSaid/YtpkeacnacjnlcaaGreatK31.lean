/- ref05.Own once more: no two of its rings share a block; a point stored into a ring of such a plan; slices.SortedFunc of items by their keys: the walk; slices.EqualFunc of items by record.same: the walk. -/
import Derived.Test.YtpkeacnacjnlcaaGreatK14
import Derived.Test.YtpkeacnacjnlcaaGreatK15
import Derived.Test.YtpkeacnacjnlcaaGreatK20
import Derived.Test.YtpkeacnacjnlcaaGreatK25
import Derived.Test.YtpkeacnacjnlcaaGreatK27
import Derived.Test.YtpkeacnacjnlcaaGreatK28
namespace Go.Proofs.YtpkeacnacjnlcaaGreat
open Go.RowKit Go.Lib
def DistH (Ao:Option Addr) (hs:List Hd):Prop:=(∀j,j<hs.length→∀a b:Addr,Ao=some a→(hdAt hs j).1=some b→a.block≠b.block)∧∀i j,i<hs.length→j<hs.length→i≠j→∀a b:Addr,(hdAt hs i).1=some a→(hdAt hs j).1=some b→a.block≠b.block
theorem DistH.nil (Ao:Option Addr):DistH Ao []:=⟨fun _ hj=>absurd hj (Nat.not_lt_zero _),fun _ _ hi=>absurd hi (Nat.not_lt_zero _)⟩
theorem DistH.next {Ao A3:Option Addr} {hs:List Hd} {nk c3 N:Nat} (h:DistH Ao hs) (hlt:(∀a:Addr,Ao=some a→a.block<N)∧∀j,j<hs.length→∀b:Addr,(hdAt hs j).1=some b→b.block<N) (hnew:∀a:Addr,A3=some a→N≤a.block):DistH Ao (hs++[(A3,nk,c3)]):=by
 have hcase:∀j,j<(hs++[(A3,nk,c3)]).length→(j<hs.length∧hdAt (hs++[(A3,nk,c3)]) j=hdAt hs j)∨(j=hs.length∧hdAt (hs++[(A3,nk,c3)]) j=(A3,nk,c3)):=fun j hj=>by
  rw[List.length_append,List.length_singleton]at hj
  by_cases e:j=hs.length
  ·exact .inr ⟨e,by rw[e];exact hdAt_snoc_eq⟩
  ·exact .inl ⟨by omega,hdAt_snoc_lt (by omega)⟩
 refine⟨fun j hj a b ha hb=>?_,fun i j hi hj hij a b ha hb=>?_⟩
 ·rcases hcase j hj with ⟨h1,h2⟩|⟨h1,h2⟩
  ·rw[h2]at hb;exact h.1 j h1 a b ha hb
  ·rw[h2]at hb
   have:=hlt.1 a ha
   have:=hnew b hb
   omega
 ·rcases hcase i hi with ⟨h1,h2⟩|⟨h1,h2⟩<;>rcases hcase j hj with ⟨h3,h4⟩|⟨h3,h4⟩
  ·rw[h2]at ha;rw[h4]at hb;exact h.2 i j h1 h3 hij a b ha hb
  ·rw[h2]at ha;rw[h4]at hb
   have:=hlt.2 i h1 a ha
   have:=hnew b hb
   omega
  ·rw[h2]at ha;rw[h4]at hb
   have:=hlt.2 j h3 b hb
   have:=hnew a ha
   omega
  ·omega
end Go.Proofs.YtpkeacnacjnlcaaGreat
namespace Go.Proofs.YtpkeacnacjnlcaaGreat
open Go.RowKit Go.Lib Go.Shelf
set_option maxHeartbeats 1600000 in
theorem sortedFuncI_any (d:List ItH) (A:Option Addr) (n cap B Bs:Nat) (w:World) (h1:1≤n) (hn:n≤1048576) (hB:B≤w.heap.size) (hs:Bs<w.heap.size) (hc:w.cell? ⟨Bs,0,none⟩=some (.slice A n cap)) (hr:Reads w B 2 A n (itsV d)) (hrd:∀e∈d,RdIt w w.heap.size e) (hka:∀e∈d,∀a,e.2.1.1=some a→a.block<w.heap.size):
 Calls Tryz.prog 58 #[.func (.func 102) #[] #[.pointer (some ⟨Bs,0,none⟩)],.func (.func 44) #[] #[]] w fun e w'=>∃g c d',e= .returned (.slice (some ⟨g,0,none⟩) n c)∧d'.Perm d∧d'.Pairwise (fun e f=>¬ltK f.1.k e.1.k)∧ItsAt w' w'.heap.size (some ⟨g,0,none⟩) n c d'∧Below w.heap.size w w':=by
 have HK:=Lib.hid (collectI_any d A n cap B Bs w hn hB hs hc hr)
 have HR:=Lib.hid hrd
 clear hc hr hrd
 go_enter Tryz.func58,Tryz.ntmps58
 go_wp2_with fail
 refine HK.out.mono ?_
 rintro e w1 ⟨v,rfl,ho,hb⟩
 obtain⟨g,c,rfl⟩:∃g c,v= .slice (some ⟨g,0,none⟩) n c:=by
  rcases ho.2 with ⟨_,h0⟩|⟨g,c,_,rfl,_⟩
  ·omega
  ·exact⟨g,c,rfl⟩
 have hbase:=(ho.lt g rfl).1
 have HS:=Lib.hid (sortItR_any d g n c w.heap.size w1 ho (fun e he=>⟨((HR.out e he).on hb).1.1,fun a ha=>by
  have h2:=hka e he a ha
  omega⟩) hn)
 have HB:=Lib.hid (And.intro hb hbase)
 have HO:=Lib.hid (own_cap ho)
 clear ho HK hb hbase
 go_wp2_with fail
 refine HS.out.mono ?_
 rintro e w2 ⟨rfl,d',hp,hso,ho2,hgr⟩
 have hb2:Below w.heap.size w w2:=HB.out.1.grown hgr HB.out.1.size (fun k e=>by cases e;exact HB.out.2)
 have HD:=Lib.hid (And.intro hp (And.intro hso (And.intro (show ItsAt w2 w2.heap.size (some ⟨g,0,none⟩) n c d' from⟨Reads.of_own ho2,fun e he=>(HR.out e (hp.mem_iff.1 he)).on hb2,own_cap ho2⟩) hb2)))
 clear hp hso ho2 hgr hb2 HS
 go_wp2_with fail
 go_ret
 exact⟨g,c,d',rfl,HD.out⟩
end Go.Proofs.YtpkeacnacjnlcaaGreat
namespace Go.Proofs.YtpkeacnacjnlcaaGreat
open Go.RowKit Go.Lib
theorem take_step {α:Type} {l m:List α} {k:Nat} (h1:k<l.length) (h2:k<m.length) (h:l.take k=m.take k):l.take (k+1)=m.take (k+1)↔l[k]=m[k]:=by
 have e1:l.take (k+1)=l.take k++[l[k]]:=List.take_succ_eq_append_getElem h1
 have e2:m.take (k+1)=m.take k++[m[k]]:=List.take_succ_eq_append_getElem h2
 rw[e1,e2,h]
 exact⟨fun h=>(List.cons.inj (List.append_cancel_left h)).1,fun h=>by rw[h]⟩
set_option maxRecDepth 100000 in
set_option maxHeartbeats 3200000 in
theorem eqItems_any (d d2:List ItH) (A A':Option Addr) (n c n' c':Nat) (w:World) (h:ItsAt w w.heap.size A n c d) (h':ItsAt w w.heap.size A' n' c' d2) (hn:n≤1048576):
 Calls Tryz.prog 62 #[.slice A n c,.slice A' n' c',.func (.func 63) #[] #[]] w fun e w'=>e= .returned (.bool (decide (d.map (·.1)=d2.map (·.1))))∧Below w.heap.size w w':=by
 have HR:=Lib.hid (And.intro h (And.intro h' (And.intro h.len h'.len)))
 clear h h'
 go_enter Tryz.func62,Tryz.ntmps62
 by_cases hnn:n=n'
 ·subst hnn
  go_wp2_with fail
  go_loopw [17] (fun i wr=>∃k:Nat,k≤n∧i= .int .i64 (k:Int)∧Hid ((d.map (·.1)).take k=(d2.map (·.1)).take k∧Below w.heap.size w wr)) (fun i _=>n-(intOf i).toNat)
  case atStart=>exact⟨0,Nat.zero_le _,rfl,rfl,Below.refl _ _⟩
  case round=>
   obtain⟨k,hk,rfl,HW⟩:=hrel
   by_cases hlt:k<n
   ·have hlt':(k:Int)<(n:Int):=by omega
    have hw1:IntKind.i64.wrap ((k:Int)+1)=(k:Int)+1:=by rw[IntKind.wrap_i64];omega
    have hI:=HR.out.1.on HW.out.2
    have hJ:=HR.out.2.1.on HW.out.2
    obtain⟨ad,rfl,-,-⟩:=hI.1.2 (by omega)
    obtain⟨bd,rfl,-,-⟩:=hJ.1.2 (by omega)
    have hkd:k<d.length:=by rw[HR.out.2.2.1];exact hlt
    have hke:k<d2.length:=by rw[HR.out.2.2.2];exact hlt
    obtain⟨-,p1,p2⟩:=hI.cells hlt hkd
    obtain⟨hbk,r1,r2⟩:=hJ.cells hlt hke
    have hst:=take_step (l:=d.map (·.1)) (m:=d2.map (·.1)) (k:=k) (by rw[List.length_map];exact hkd) (by rw[List.length_map];exact hke) HW.out.1
    rw[List.getElem_map,List.getElem_map]at hst
    have hx:=hI.2.1 _ (List.getElem_mem hkd)
    have hy:=hJ.2.1 _ (List.getElem_mem hke)
    obtain⟨x,hxx⟩:∃x,d[k]=x:=⟨_,rfl⟩
    obtain⟨y,hyy⟩:∃y,d2[k]=y:=⟨_,rfl⟩
    rw[hxx]at p1 p2 hst hx
    rw[hyy]at r1 r2 hst hy
    obtain⟨⟨xk,xv⟩,⟨X,xn,xc⟩,⟨X',xn',xc'⟩⟩:=x
    obtain⟨⟨yk,yv⟩,⟨Y,yn,yc⟩,⟨Y',yn',yc'⟩⟩:=y
    obtain⟨W1,hW1⟩:∃W,W=wr.alloc (.cells #[.slice X xn xc,.slice X' xn' xc'] 52):=⟨_,rfl⟩
    have hb1:Below wr.heap.size wr W1:=by rw[hW1];exact(Below.refl _ _).alloc (Nat.le_refl _) _
    have hs1:W1.heap.size=wr.heap.size+1:=by rw[hW1,World.size_alloc]
    have b1:Blk W1 wr.heap.size 52 #[.slice X xn xc,.slice X' xn' xc']:=by rw[hW1];exact Blk.new wr _ _
    obtain⟨W2,hW2⟩:∃W,W=W1.alloc (.cells #[.slice Y yn yc,.slice Y' yn' yc'] 52):=⟨_,rfl⟩
    have hb2:Below W1.heap.size W1 W2:=by rw[hW2];exact(Below.refl _ _).alloc (Nat.le_refl _) _
    have b2:Blk W2 (wr.heap.size+1) 52 #[.slice Y yn yc,.slice Y' yn' yc']:=by rw[hW2,←hs1];exact Blk.new W1 _ _
    have b1':Blk W2 wr.heap.size 52 #[.slice X xn xc,.slice X' xn' xc']:=Blk.below b1 hb2 (Blk.lt b1)
    have hb12:=below_on hb1 (Nat.le_refl _) hb2
    have KS:=Lib.hid (sameIt_any (⟨xk,xv⟩,(X,xn,xc),(X',xn',xc')) (⟨yk,yv⟩,(Y,yn,yc),(Y',yn',yc')) W2 (hx.on hb12) (hy.on hb12))
    have z1:=Blk.cell (i:=0) b1'
    have z2:=Blk.cell (i:=1) b1'
    have z3:=Blk.cell (i:=0) b2
    have z4:=Blk.cell (i:=1) b2
    simp only[List.getElem?_toArray,List.getElem?_cons_zero,List.getElem?_cons_succ]at z1 z2 z3 z4
    have HB:=Lib.hid (below_on HW.out.2 (Nat.le_refl _) hb12)
    have r1':=(hb1.cell (p:=bd.add (k*2)) (by rw[block_of_add];exact hbk)).trans r1
    have r2':=(hb1.cell (p:=⟨(bd.add (k*2)).block,(bd.add (k*2)).off+1,none⟩) (show (bd.add (k*2)).block<_ by rw[block_of_add];exact hbk)).trans r2
    have HS:=Lib.hid (And.intro hst HW.out.1)
    have HKN:=Lib.hid (show k+1≤n by omega)
    clear b1 b1' b2 hb1 hb2 hb12 hx hy hxx hyy hkd hke hI hJ hbk hst HW r1 r2
    go_upto_region 6 with fail
    rw[←hW1]
    clear hW1
    go_upto_region 7 with fail
    rw[←hW2]
    try rw[hs1]
    clear hW2 hs1
    go_wp2_with fail
    refine KS.out.mono ?_
    rintro e W3 ⟨rfl,hb3⟩
    have HB3:=Lib.hid (below_on HB.out (Nat.le_refl _) hb3)
    clear hb3 HB KS z1 z2 z3 z4 r1' r2' p1 p2
    by_cases hq:(⟨xk,xv⟩:It)=⟨yk,yv⟩
    ·rw[decide_eq_true hq]
     have HE:=Lib.hid (HS.out.1.2 hq)
     clear hq
     go_wp2_with fail
     go_roundw
     case rel=>exact⟨k+1,HKN.out,by go_num,HE.out,HB3.out⟩
     case measure=>simp[intOf];omega
    ·rw[decide_eq_false hq]
     have HE:Hid (decide (d.map (·.1)=d2.map (·.1))=false):=decide_eq_false fun e=>hq (HS.out.1.1 (by rw[e]))
     clear hq
     go_wp2_with fail
     go_ret
     exact⟨by rw[HE.out];rfl,HB3.out⟩
   ·have HE:Hid (decide (d.map (·.1)=d2.map (·.1))=true):=decide_eq_true (by
     have h:=HW.out.1
     rw[List.take_of_length_le (by rw[List.length_map,HR.out.2.2.1];omega),List.take_of_length_le (by rw[List.length_map,HR.out.2.2.2];omega)]at h
     exact h)
    have HB3:=Lib.hid HW.out.2
    clear HW
    go_wp2_with fail
    go_ret
    exact⟨by rw[HE.out];rfl,HB3.out⟩
 ·have HE:Hid (decide (d.map (·.1)=d2.map (·.1))=false):=decide_eq_false fun e=>hnn (by
   have h:=congrArg List.length e
   rw[List.length_map,List.length_map,HR.out.2.2.1,HR.out.2.2.2]at h
   exact h)
  have g1:¬(n:Int)=(n':Int):=by omega
  go_wp2_with fail
  go_ret
  exact⟨by rw[HE.out];rfl,Below.refl _ _⟩
end Go.Proofs.YtpkeacnacjnlcaaGreat
