/- slices.SortFunc of rows of bytes by bytes.Compare, laid off the shelf; Plain law: two stretches with a point within both have more in common than one end. Rotations of a ring without repetition; bend.begin, bend.done, bend.Mark: the walks; ref05.Own once more: no two of its rings share a block; a point stored into a ring of such a plan; slices.SortedFunc of items by their keys: the walk; slices.EqualFunc of items by record.same: the walk; Plain law: steps of a border, and the one closed way that they make, wherever it is begun; What a cut is made of: rings, corners, the parcels' order: plain law; Of a sound plan no item's key stands twice; the order of those that are read. Plain laws; What a cut does to a plan of the call's own: frames; A cut's two parts; no second cut by the same path: plain law. -/
import Derived.Shelf.SlSortCmp.Whole1
import Derived.Shelf.SlSortCmp.NoneTotal
import Derived.Deep.CutBlock
import Derived.Deep.DeepCutAuto
import Derived.Test.YtpkeacnacjnlcaaGreatK06
import Derived.Test.YtpkeacnacjnlcaaGreatK09
import Derived.Test.YtpkeacnacjnlcaaGreatK10
import Derived.Test.YtpkeacnacjnlcaaGreatK11
import Derived.Test.YtpkeacnacjnlcaaGreatK12
import Derived.Test.YtpkeacnacjnlcaaGreatK14
import Derived.Test.YtpkeacnacjnlcaaGreatK15
import Derived.Test.YtpkeacnacjnlcaaGreatK16
import Derived.Test.YtpkeacnacjnlcaaGreatK17
import Derived.Test.YtpkeacnacjnlcaaGreatK18
namespace Go.Proofs.YtpkeacnacjnlcaaGreat
open Go.Shelf
end Go.Proofs.YtpkeacnacjnlcaaGreat
namespace Go.Proofs.YtpkeacnacjnlcaaGreat
open Go.RowKit Go.Shelf Go.Sort Go.Lib
/-- Bytes, and where they lie. -/
abbrev BsH:=List UInt8×Hd
def bsV (l:List BsH):List Value:=l.map fun e=>hdV e.2
/-- Bytes that lie elsewhere than in block g. -/
def BOff (w:World) (g:Nat) (e:BsH):Prop:=Reads w w.heap.size 1 e.2.1 e.2.2.1 (u8s e.1)∧∀a,e.2.1=some a→a.block≠g
abbrev KBs (w:World) (g:Nat):={e:BsH // BOff w g e}
instance (w:World) (g:Nat):Inhabited (KBs w g):=⟨⟨([],(none,0,0)),⟨Reads.none_,fun a e=>by cases e⟩⟩⟩
/-- Rows of bytes of the call's own. -/
def BsOwn (base:Nat) (W:World) (A:Option Addr) (n c:Nat) (d:List BsH):Prop:=W.ownsRow base 50 1 (.slice A n c) n (bsV d)∧∀e∈d,NewB base W e.2 e.1
theorem BsOwn.below {base:Nat} {W W':World} {A:Option Addr} {n c:Nat} {d:List BsH} (h:BsOwn base W A n c d) (hb:Below W.heap.size W W'):BsOwn base W' A n c d:=
 ⟨own_below h.1 hb,fun e he=>(h.2 e he).below hb⟩
theorem BsOwn.mono {base base':Nat} {W:World} {A:Option Addr} {n c:Nat} {d:List BsH} (h:BsOwn base W A n c d) (hb:base'≤base):BsOwn base' W A n c d:=
 ⟨own_mono h.1 hb,fun e he=>(h.2 e he).mono hb⟩
theorem BsOwn.len {base:Nat} {W:World} {A:Option Addr} {n c:Nat} {d:List BsH} (h:BsOwn base W A n c d):d.length=n:=by
 have:=h.1.1
 unfold bsV at this
 simpa using this
theorem bsOwn_nil (base:Nat) (W:World):BsOwn base W none 0 0 []:=⟨World.ownsRow_nil _ _ _ _,fun _ h=>absurd h (by simp)⟩
end Go.Proofs.YtpkeacnacjnlcaaGreat
namespace Go.Proofs.YtpkeacnacjnlcaaGreat
/-- A point within a stretch: on it, and neither of its ends. -/
def inS (a b q:Pt):Prop:=onB a b q=true∧q≠a∧q≠b
theorem inS.swap {a b q:Pt} (h:inS a b q):inS b a q:=⟨by rw[onB_swap];exact h.1,h.2.2,h.2.1⟩
theorem nodup_ptAt {xs:List Pt} (hn:xs.Nodup) {i j:Nat} (hi:i<xs.length) (hj:j<xs.length) (h:ptAt xs i=ptAt xs j):i=j:=by
 rw[ptAt_lt hi,ptAt_lt hj]at h
 exact(List.getElem_inj hn).1 h
end Go.Proofs.YtpkeacnacjnlcaaGreat
namespace Go.Proofs.YtpkeacnacjnlcaaGreat
open Go.RowKit Go.Lib
theorem res_store {w W:World} {g:Nat} {a b:Value} (hb:Below w.heap.size w W) (hg:w.heap.size≤g) (hk:Blk W g 30 #[a,b]) (u v:Value):
 ∃V,V=(W.setCell ⟨g,0,none⟩ u).setCell ⟨g,1,none⟩ v∧V.cell? ⟨g,0,none⟩=some u∧V.cell? ⟨g,1,none⟩=some v∧Below w.heap.size w V:=by
 have hK:=Blk.set_ (Blk.set_ hk 0 u) 1 v
 exact⟨_,rfl,by rw[Blk.cell hK 0];rfl,by rw[Blk.cell hK 1];rfl,(hb.setCell (p:=⟨g,0,none⟩) hg u).setCell (p:=⟨g,1,none⟩) hg v⟩
theorem plk_facts4 {W:World} {g:Nat} {a b:Value} (hk:Blk W g 30 #[a,b]):W.cell? ⟨g,0,none⟩=some a∧W.cell? ⟨g,1,none⟩=some b∧W.frozen? ⟨g,0,none⟩=false∧W.frozen? ⟨g,1,none⟩=false:=⟨Blk.cell hk 0,Blk.cell hk 1,Blk.frozen hk 0,Blk.frozen hk 1⟩
theorem planOwn_nil (B:Nat) (W:World):PlanOwn B W none 0 0 none 0 0 ⟨[],[]⟩ []:=⟨World.ownsRow_nil _ _ _ _,World.ownsRow_nil _ _ _ _,rfl,rfl,fun j hj=>absurd hj (Nat.not_lt_zero _),⟨⟨by simp,by simp⟩,by simp,by simp⟩⟩
def DistH (Ao:Option Addr) (hs:List Hd):Prop:=(∀j,j<hs.length→∀a b:Addr,Ao=some a→(hdAt hs j).1=some b→a.block≠b.block)∧∀i j,i<hs.length→j<hs.length→i≠j→∀a b:Addr,(hdAt hs i).1=some a→(hdAt hs j).1=some b→a.block≠b.block
theorem DistH.nil (Ao:Option Addr):DistH Ao []:=⟨fun _ hj=>absurd hj (Nat.not_lt_zero _),fun _ _ hi=>absurd hi (Nat.not_lt_zero _)⟩
theorem DistH.next {Ao A3:Option Addr} {hs:List Hd} {nk c3 N:Nat} (h:DistH Ao hs) (hlt:(∀a:Addr,Ao=some a→a.block<N)∧∀j,j<hs.length→∀b:Addr,(hdAt hs j).1=some b→b.block<N) (hnew:∀a:Addr,A3=some a→N≤a.block):DistH Ao (hs++[(A3,nk,c3)]):=by
 have hcase:∀j,j<(hs++[(A3,nk,c3)]).length→(j<hs.length∧hdAt (hs++[(A3,nk,c3)]) j=hdAt hs j)∨(j=hs.length∧hdAt (hs++[(A3,nk,c3)]) j=(A3,nk,c3)):=fun j hj=>by
  rw[List.length_append,List.length_singleton]at hj
  by_cases e:j=hs.length
  ·exact .inr ⟨e,by rw[e];exact hdAt_snoc_eq⟩
  ·exact .inl ⟨by omega,hdAt_snoc_lt (by omega)⟩
 refine⟨fun j hj a b ha hb=>?_,fun i j hi hj hij a b ha hb=>?_⟩
 ·rcases hcase j hj with ⟨h1,h2⟩|⟨h1,h2⟩
  ·rw[h2]at hb;exact h.1 j h1 a b ha hb
  ·rw[h2]at hb
   have:=hlt.1 a ha
   have:=hnew b hb
   omega
 ·rcases hcase i hi with ⟨h1,h2⟩|⟨h1,h2⟩<;>rcases hcase j hj with ⟨h3,h4⟩|⟨h3,h4⟩
  ·rw[h2]at ha;rw[h4]at hb;exact h.2 i j h1 h3 hij a b ha hb
  ·rw[h2]at ha;rw[h4]at hb
   have:=hlt.2 i h1 a ha
   have:=hnew b hb
   omega
  ·rw[h2]at ha;rw[h4]at hb
   have:=hlt.2 j h3 b hb
   have:=hnew a ha
   omega
  ·omega
end Go.Proofs.YtpkeacnacjnlcaaGreat
namespace Go.Proofs.YtpkeacnacjnlcaaGreat
open Go.RowKit Go.Lib Go.Shelf
set_option maxHeartbeats 1600000 in
theorem sortedFuncI_any (d:List ItH) (A:Option Addr) (n cap B Bs:Nat) (w:World) (h1:1≤n) (hn:n≤1048576) (hB:B≤w.heap.size) (hs:Bs<w.heap.size) (hc:w.cell? ⟨Bs,0,none⟩=some (.slice A n cap)) (hr:Reads w B 2 A n (itsV d)) (hrd:∀e∈d,RdIt w w.heap.size e) (hka:∀e∈d,∀a,e.2.1.1=some a→a.block<w.heap.size):
 Calls Tryz.prog 58 #[.func (.func 102) #[] #[.pointer (some ⟨Bs,0,none⟩)],.func (.func 44) #[] #[]] w fun e w'=>∃g c d',e= .returned (.slice (some ⟨g,0,none⟩) n c)∧d'.Perm d∧d'.Pairwise (fun e f=>¬ltK f.1.k e.1.k)∧ItsAt w' w'.heap.size (some ⟨g,0,none⟩) n c d'∧Below w.heap.size w w':=by
 have HK:=Lib.hid (collectI_any d A n cap B Bs w hn hB hs hc hr)
 have HR:=Lib.hid hrd
 clear hc hr hrd
 go_enter Tryz.func58,Tryz.ntmps58
 go_wp2_with fail
 refine HK.out.mono ?_
 rintro e w1 ⟨v,rfl,ho,hb⟩
 obtain⟨g,c,rfl⟩:∃g c,v= .slice (some ⟨g,0,none⟩) n c:=by
  rcases ho.2 with ⟨_,h0⟩|⟨g,c,_,rfl,_⟩
  ·omega
  ·exact⟨g,c,rfl⟩
 have hbase:=(ho.lt g rfl).1
 have HS:=Lib.hid (sortItR_any d g n c w.heap.size w1 ho (fun e he=>⟨((HR.out e he).on hb).1.1,fun a ha=>by
  have h2:=hka e he a ha
  omega⟩) hn)
 have HB:=Lib.hid (And.intro hb hbase)
 have HO:=Lib.hid (own_cap ho)
 clear ho HK hb hbase
 go_wp2_with fail
 refine HS.out.mono ?_
 rintro e w2 ⟨rfl,d',hp,hso,ho2,hgr⟩
 have hb2:Below w.heap.size w w2:=HB.out.1.grown hgr HB.out.1.size (fun k e=>by cases e;exact HB.out.2)
 have HD:=Lib.hid (And.intro hp (And.intro hso (And.intro (show ItsAt w2 w2.heap.size (some ⟨g,0,none⟩) n c d' from⟨Reads.of_own ho2,fun e he=>(HR.out e (hp.mem_iff.1 he)).on hb2,own_cap ho2⟩) hb2)))
 clear hp hso ho2 hgr hb2 HS
 go_wp2_with fail
 go_ret
 exact⟨g,c,d',rfl,HD.out⟩
end Go.Proofs.YtpkeacnacjnlcaaGreat
namespace Go.Proofs.YtpkeacnacjnlcaaGreat
open Go.RowKit Go.Lib
theorem take_step {α:Type} {l m:List α} {k:Nat} (h1:k<l.length) (h2:k<m.length) (h:l.take k=m.take k):l.take (k+1)=m.take (k+1)↔l[k]=m[k]:=by
 have e1:l.take (k+1)=l.take k++[l[k]]:=List.take_succ_eq_append_getElem h1
 have e2:m.take (k+1)=m.take k++[m[k]]:=List.take_succ_eq_append_getElem h2
 rw[e1,e2,h]
 exact⟨fun h=>(List.cons.inj (List.append_cancel_left h)).1,fun h=>by rw[h]⟩
set_option maxRecDepth 100000 in
set_option maxHeartbeats 3200000 in
theorem eqItems_any (d d2:List ItH) (A A':Option Addr) (n c n' c':Nat) (w:World) (h:ItsAt w w.heap.size A n c d) (h':ItsAt w w.heap.size A' n' c' d2) (hn:n≤1048576):
 Calls Tryz.prog 62 #[.slice A n c,.slice A' n' c',.func (.func 63) #[] #[]] w fun e w'=>e= .returned (.bool (decide (d.map (·.1)=d2.map (·.1))))∧Below w.heap.size w w':=by
 have HR:=Lib.hid (And.intro h (And.intro h' (And.intro h.len h'.len)))
 clear h h'
 go_enter Tryz.func62,Tryz.ntmps62
 by_cases hnn:n=n'
 ·subst hnn
  go_wp2_with fail
  go_loopw [17] (fun i wr=>∃k:Nat,k≤n∧i= .int .i64 (k:Int)∧Hid ((d.map (·.1)).take k=(d2.map (·.1)).take k∧Below w.heap.size w wr)) (fun i _=>n-(intOf i).toNat)
  case atStart=>exact⟨0,Nat.zero_le _,rfl,rfl,Below.refl _ _⟩
  case round=>
   obtain⟨k,hk,rfl,HW⟩:=hrel
   by_cases hlt:k<n
   ·have hlt':(k:Int)<(n:Int):=by omega
    have hw1:IntKind.i64.wrap ((k:Int)+1)=(k:Int)+1:=by rw[IntKind.wrap_i64];omega
    have hI:=HR.out.1.on HW.out.2
    have hJ:=HR.out.2.1.on HW.out.2
    obtain⟨ad,rfl,-,-⟩:=hI.1.2 (by omega)
    obtain⟨bd,rfl,-,-⟩:=hJ.1.2 (by omega)
    have hkd:k<d.length:=by rw[HR.out.2.2.1];exact hlt
    have hke:k<d2.length:=by rw[HR.out.2.2.2];exact hlt
    obtain⟨-,p1,p2⟩:=hI.cells hlt hkd
    obtain⟨hbk,r1,r2⟩:=hJ.cells hlt hke
    have hst:=take_step (l:=d.map (·.1)) (m:=d2.map (·.1)) (k:=k) (by rw[List.length_map];exact hkd) (by rw[List.length_map];exact hke) HW.out.1
    rw[List.getElem_map,List.getElem_map]at hst
    have hx:=hI.2.1 _ (List.getElem_mem hkd)
    have hy:=hJ.2.1 _ (List.getElem_mem hke)
    obtain⟨x,hxx⟩:∃x,d[k]=x:=⟨_,rfl⟩
    obtain⟨y,hyy⟩:∃y,d2[k]=y:=⟨_,rfl⟩
    rw[hxx]at p1 p2 hst hx
    rw[hyy]at r1 r2 hst hy
    obtain⟨⟨xk,xv⟩,⟨X,xn,xc⟩,⟨X',xn',xc'⟩⟩:=x
    obtain⟨⟨yk,yv⟩,⟨Y,yn,yc⟩,⟨Y',yn',yc'⟩⟩:=y
    obtain⟨W1,hW1⟩:∃W,W=wr.alloc (.cells #[.slice X xn xc,.slice X' xn' xc'] 52):=⟨_,rfl⟩
    have hb1:Below wr.heap.size wr W1:=by rw[hW1];exact(Below.refl _ _).alloc (Nat.le_refl _) _
    have hs1:W1.heap.size=wr.heap.size+1:=by rw[hW1,World.size_alloc]
    have b1:Blk W1 wr.heap.size 52 #[.slice X xn xc,.slice X' xn' xc']:=by rw[hW1];exact Blk.new wr _ _
    obtain⟨W2,hW2⟩:∃W,W=W1.alloc (.cells #[.slice Y yn yc,.slice Y' yn' yc'] 52):=⟨_,rfl⟩
    have hb2:Below W1.heap.size W1 W2:=by rw[hW2];exact(Below.refl _ _).alloc (Nat.le_refl _) _
    have b2:Blk W2 (wr.heap.size+1) 52 #[.slice Y yn yc,.slice Y' yn' yc']:=by rw[hW2,←hs1];exact Blk.new W1 _ _
    have b1':Blk W2 wr.heap.size 52 #[.slice X xn xc,.slice X' xn' xc']:=Blk.below b1 hb2 (Blk.lt b1)
    have hb12:=below_on hb1 (Nat.le_refl _) hb2
    have KS:=Lib.hid (sameIt_any (⟨xk,xv⟩,(X,xn,xc),(X',xn',xc')) (⟨yk,yv⟩,(Y,yn,yc),(Y',yn',yc')) W2 (hx.on hb12) (hy.on hb12))
    have z1:=Blk.cell (i:=0) b1'
    have z2:=Blk.cell (i:=1) b1'
    have z3:=Blk.cell (i:=0) b2
    have z4:=Blk.cell (i:=1) b2
    simp only[List.getElem?_toArray,List.getElem?_cons_zero,List.getElem?_cons_succ]at z1 z2 z3 z4
    have HB:=Lib.hid (below_on HW.out.2 (Nat.le_refl _) hb12)
    have r1':=(hb1.cell (p:=bd.add (k*2)) (by rw[block_of_add];exact hbk)).trans r1
    have r2':=(hb1.cell (p:=⟨(bd.add (k*2)).block,(bd.add (k*2)).off+1,none⟩) (show (bd.add (k*2)).block<_ by rw[block_of_add];exact hbk)).trans r2
    have HS:=Lib.hid (And.intro hst HW.out.1)
    have HKN:=Lib.hid (show k+1≤n by omega)
    clear b1 b1' b2 hb1 hb2 hb12 hx hy hxx hyy hkd hke hI hJ hbk hst HW r1 r2
    go_upto_region 6 with fail
    rw[←hW1]
    clear hW1
    go_upto_region 7 with fail
    rw[←hW2]
    try rw[hs1]
    clear hW2 hs1
    go_wp2_with fail
    refine KS.out.mono ?_
    rintro e W3 ⟨rfl,hb3⟩
    have HB3:=Lib.hid (below_on HB.out (Nat.le_refl _) hb3)
    clear hb3 HB KS z1 z2 z3 z4 r1' r2' p1 p2
    by_cases hq:(⟨xk,xv⟩:It)=⟨yk,yv⟩
    ·rw[decide_eq_true hq]
     have HE:=Lib.hid (HS.out.1.2 hq)
     clear hq
     go_wp2_with fail
     go_roundw
     case rel=>exact⟨k+1,HKN.out,by go_num,HE.out,HB3.out⟩
     case measure=>simp[intOf];omega
    ·rw[decide_eq_false hq]
     have HE:Hid (decide (d.map (·.1)=d2.map (·.1))=false):=decide_eq_false fun e=>hq (HS.out.1.1 (by rw[e]))
     clear hq
     go_wp2_with fail
     go_ret
     exact⟨by rw[HE.out];rfl,HB3.out⟩
   ·have HE:Hid (decide (d.map (·.1)=d2.map (·.1))=true):=decide_eq_true (by
     have h:=HW.out.1
     rw[List.take_of_length_le (by rw[List.length_map,HR.out.2.2.1];omega),List.take_of_length_le (by rw[List.length_map,HR.out.2.2.2];omega)]at h
     exact h)
    have HB3:=Lib.hid HW.out.2
    clear HW
    go_wp2_with fail
    go_ret
    exact⟨by rw[HE.out];rfl,HB3.out⟩
 ·have HE:Hid (decide (d.map (·.1)=d2.map (·.1))=false):=decide_eq_false fun e=>hnn (by
   have h:=congrArg List.length e
   rw[List.length_map,List.length_map,HR.out.2.2.1,HR.out.2.2.2]at h
   exact h)
  have g1:¬(n:Int)=(n':Int):=by omega
  go_wp2_with fail
  go_ret
  exact⟨by rw[HE.out];rfl,Below.refl _ _⟩
end Go.Proofs.YtpkeacnacjnlcaaGreat
namespace Go.Proofs.YtpkeacnacjnlcaaGreat
/-- A closed way of steps: all of them, each once. -/
structure CycE (l:List Ed) (c:List Pt):Prop where
 ne:c≠[]
 nd:c.Nodup
 len:c.length=l.length
 sub:∀k,k<c.length→(⟨ptAt c k,ptAt c ((k+1)%c.length)⟩:Ed)∈l
theorem perm_of_sub {α:Type} [DecidableEq α]:∀ {a l:List α},a.Nodup→(∀x∈a,x∈l)→l.length≤a.length→a.Perm l
 |[],l,_,_,h=>by
  have:l=[]:=List.eq_nil_of_length_eq_zero (by simpa using h)
  subst this
  exact .nil
 |x::a,l,hn,hs,h=>by
  obtain⟨h1,h2⟩:=List.nodup_cons.1 hn
  have hx:x∈l:=hs x (by simp)
  have hp:l.Perm (x::l.erase x):=List.perm_cons_erase hx
  have hl:(l.erase x).length=l.length-1:=List.length_erase_of_mem hx
  refine List.Perm.trans ?_ hp.symm
  refine List.Perm.cons x (perm_of_sub h2 (fun y hy=>?_) (by rw[hl];simp at h;omega))
  have hy2:y∈l:=hs y (by simp[hy])
  exact(List.mem_erase_of_ne (fun e=>h1 (by rw[←e];exact hy))).2 hy2
theorem edgesOf_at {c:List Pt} {e:Ed} (h:e∈edgesOf c):∃k,k<c.length∧e=⟨ptAt c k,ptAt c ((k+1)%c.length)⟩:=by
 unfold edgesOf at h
 obtain⟨k,h1,h2⟩:=List.mem_map.1 h
 exact⟨k,List.mem_range.1 h1,h2.symm⟩
theorem edgesOf_in {c:List Pt} {k:Nat} (h:k<c.length):(⟨ptAt c k,ptAt c ((k+1)%c.length)⟩:Ed)∈edgesOf c:=by
 unfold edgesOf
 exact List.mem_map.2 ⟨k,List.mem_range.2 h,rfl⟩
theorem edgesOf_nd {c:List Pt} (hn:c.Nodup):(edgesOf c).Nodup:=by
 unfold edgesOf
 refine List.Pairwise.map _ (fun a b h=>h) ?_
 refine List.pairwise_iff_getElem.2 fun i j hi hj hij he=>?_
 simp only[List.length_range]at hi hj
 simp only[List.getElem_range,Ed.mk.injEq]at he
 have:=nodup_ptAt hn hi hj he.1
 omega
theorem CycE.perm {l:List Ed} {c:List Pt} (h:CycE l c):(edgesOf c).Perm l:=by
 refine perm_of_sub (edgesOf_nd h.nd) (fun e he=>?_) (by rw[←h.len];simp[edgesOf])
 obtain⟨k,hk,rfl⟩:=edgesOf_at he
 exact h.sub k hk
theorem CycE.of {l:List Ed} {c:List Pt} (h0:c≠[]) (hn:c.Nodup) (hp:(edgesOf c).Perm l):CycE l c:=
 ⟨h0,hn,by have:=hp.length_eq;simpa[edgesOf]using this,fun k hk=>hp.mem_iff.1 (edgesOf_in hk)⟩
theorem CycE.at_ {l:List Ed} {c:List Pt} (h:CycE l c) {e:Ed} (he:e∈l):∃k,k<c.length∧e=⟨ptAt c k,ptAt c ((k+1)%c.length)⟩:=edgesOf_at (h.perm.mem_iff.2 he)
theorem CycE.key {l:List Ed} {c:List Pt} (h:CycE l c) {e f:Ed} (he:e∈l) (hf:f∈l) (hk:e.a=f.a):e=f:=by
 obtain⟨i,hi,rfl⟩:=h.at_ he
 obtain⟨j,hj,rfl⟩:=h.at_ hf
 have:=nodup_ptAt h.nd hi hj hk
 rw[this]
/-- A way of steps from its first corner to a next one. -/
def PathE (l:List Ed) (out:List Pt) (q:Pt):Prop:=∀j,j<out.length→(⟨ptAt (out++[q]) j,ptAt (out++[q]) (j+1)⟩:Ed)∈l
theorem ptAt_app1 {xs ys:List Pt} {j:Nat} (h:j<xs.length):ptAt (xs++ys) j=ptAt xs j:=by unfold ptAt;rw[List.getElem?_append_left h]
theorem ptAt_app2 (xs:List Pt) (q:Pt):ptAt (xs++[q]) xs.length=q:=by unfold ptAt;simp
theorem PathE.nil (l:List Ed) (q:Pt):PathE l [] q:=fun _ hj=>absurd hj (Nat.not_lt_zero _)
theorem PathE.snoc {l:List Ed} {out:List Pt} {q r:Pt} (h:PathE l out q) (he:(⟨q,r⟩:Ed)∈l):PathE l (out++[q]) r:=fun j hj=>by
 rw[List.length_append,List.length_singleton]at hj
 by_cases h1:j<out.length
 ·rw[ptAt_app1 (by simp;omega)]
  have h2:=h j h1
  rw[ptAt_app1 (xs:=out++[q]) (ys:=[r]) (by simp;omega)]
  exact h2
 ·obtain rfl:j=out.length:=by omega
  rw[ptAt_app1 (by simp),ptAt_app2]
  have e:ptAt (out++[q]++[r]) (out.length+1)=r:=by
   have:=ptAt_app2 (out++[q]) r
   rwa [List.length_append,List.length_singleton]at this
  rw[e]
  exact he
theorem CycE.path {l:List Ed} {c:List Pt} (h:CycE l c):PathE l c (ptAt c 0):=fun j hj=>by
 have h1:=h.sub j hj
 rw[ptAt_app1 hj]
 by_cases h2:j+1<c.length
 ·rw[Nat.mod_eq_of_lt h2]at h1
  rw[ptAt_app1 h2]
  exact h1
 ·have e:j+1=c.length:=by omega
  rw[e,Nat.mod_self]at h1
  rw[e,ptAt_app2]
  exact h1
theorem listN_pw {ps:List Parc}:∀ {n:Nat} {last:Int},listN n last ps=true→ps.Pairwise (fun x y=>x.id<y.id)∧∀x∈ps,last<x.id:=by
 induction ps with
 |nil=>intro n last _;exact⟨.nil,fun x hx=>absurd hx List.not_mem_nil⟩
 |cons y ps ih=>
  intro n last h
  rw[listN_cons]at h
  simp only[Bool.and_eq_true,decide_eq_true_eq]at h
  obtain⟨h1,h2,h3,h4,h5⟩:=h
  obtain⟨k1,k2⟩:=ih h5
  refine⟨List.pairwise_cons.2 ⟨k2,k1⟩,fun x hx=>?_⟩
  rcases List.mem_cons.1 hx with rfl|hx
  ·exact h2
  ·have:=k2 x hx;omega
theorem listed_pw {p:Plan} (h:listedB p=true):p.parcels.Pairwise (fun x y=>x.id<y.id):=by
 unfold listedB at h
 rw[Bool.and_eq_true]at h
 exact(listN_pw h.1).1
theorem pcAt_mem {ps:List Parc} {k:Nat} (hk:k<ps.length):pcAt ps k∈ps:=by rw[pcAt_lt hk];exact List.getElem_mem hk
/-- What the records' laws ask of a plan: all sound ones have it. -/
structure RecOK (p:Plan):Prop where
 out:(∀q∈p.outer,good q=true)∧p.outer.length≤128
 pcs:∀x∈p.parcels,idB x.id=true∧(∀q∈x.ring,good q=true)∧x.ring.length≤128
 ids:p.parcels.Pairwise (fun x y=>x.id<y.id)
 eds:(allE p.parcels).Nodup
theorem listN_ids:∀ {n:Nat} {l:Int} {ps:List Parc},listN n l ps=true→∀x∈ps,idB x.id=true
 |_,_,[],_,x,hx=>absurd hx (by simp)
 |n,l,y::ps,h,x,hx=>by
  unfold listN at h
  simp only[Bool.and_eq_true]at h
  rcases List.mem_cons.1 hx with rfl|hx
  ·exact h.1
  ·exact listN_ids h.2.2.2.2 x hx
theorem recOK_sound {p:Plan} (h:SoundP p):RecOK p:=by
 have ho:=sound_ring h (.inl rfl)
 refine⟨⟨fun q hq=>goodL_mem ho.1 hq,ho.2.1⟩,fun x hx=>?_,listed_pw h.1,h.2.2.2.1.1⟩
 have hr:=sound_ring h (.inr ⟨x,hx,rfl⟩)
 have hl:=h.1
 unfold listedB at hl
 simp only[Bool.and_eq_true]at hl
 exact⟨listN_ids hl.1 x hx,fun q hq=>goodL_mem hr.1 hq,hr.2.1⟩
theorem ptAt_in {xs:List Pt} (h:∀q∈xs,good q=true) {k:Nat} (hk:k<xs.length):good (ptAt xs k)=true:=h _ (ptAt_mem hk)
theorem edgK_good {xs:List Pt} (h:∀q∈xs,good q=true) {e:Ed} (he:e∈edgesOf xs):good e.a=true∧good e.b=true:=by
 obtain⟨k,hk,rfl⟩:=edgesOf_at he
 exact⟨ptAt_in h hk,ptAt_in h (Nat.mod_lt _ (by omega))⟩
theorem cellsL_key {xs:List Pt} {c:Pt} (h:c∈cellsL xs): -4≤c.x∧c.x≤4∧ -4≤c.y∧c.y≤4:=by
 unfold cellsL at h
 split at h
 ·exact cell_key h
 ·simp at h
theorem cellsL_nodup (xs:List Pt):(cellsL xs).Nodup:=by
 unfold cellsL
 split
 ·exact spanC_nodup _
 ·exact List.nodup_nil
theorem par_keys {x:Parc} {k:List UInt8} (h:k∈(parIts x).map (·.k)):(∃c,k=pcHead x.id++[c])∨(∃e∈edgesOf x.ring,k=edgKy e)∨∃c∈cellsL x.ring,k=clKey x.id c:=by
 obtain⟨i,hi,rfl⟩:=List.mem_map.1 h
 unfold parIts at hi
 rcases List.mem_append.1 hi with hi|hi
 ·rcases List.mem_cons.1 hi with rfl|hi
  ·exact .inl ⟨_,rfl⟩
  ·obtain⟨k,-,rfl⟩:=List.mem_map.1 hi
   exact .inl ⟨_,rfl⟩
 ·rcases List.mem_append.1 hi with hi|hi
  ·obtain⟨e,he,rfl⟩:=List.mem_map.1 hi
   exact .inr (.inl ⟨e,he,rfl⟩)
  ·obtain⟨c,hc,rfl⟩:=List.mem_map.1 hi
   exact .inr (.inr ⟨c,hc,rfl⟩)
theorem clKey_inj {i j:Int} {c d:Pt} (hc: -4≤c.x∧c.x≤4∧ -4≤c.y∧c.y≤4) (hd: -4≤d.x∧d.x≤4∧ -4≤d.y∧d.y≤4) (h:clKey i c=clKey j d):c=d∧idBy i=idBy j:=by
 unfold clKey at h
 have h1:=(List.cons.inj h).2
 have h2:=List.cons.inj h1
 have h3:=List.cons.inj h2.2
 have e1:=congrArg UInt8.toNat h2.1
 have e2:=congrArg UInt8.toNat h3.1
 simp only[UInt8.toNat_ofNat']at e1 e2
 rcases c with ⟨a,b⟩
 rcases d with ⟨a',b'⟩
 simp only at *
 exact⟨by rw[show a=a' by omega,show b=b' by omega],h3.2⟩
theorem parOP_nodup {x:Parc} (hl:x.ring.length≤128):((parOP x).map (·.k)).Nodup:=by
 unfold parOP
 rw[List.map_cons,List.nodup_cons]
 refine⟨fun h=>?_,ringIts_nodup _ _ _ hl (Nat.le_refl 1)⟩
 rw[ringIts_keys]at h
 obtain⟨k,hk,e⟩:=List.mem_map.1 h
 have hk:=List.mem_range.1 hk
 have hc:=chkN_le (n:=x.ring.length) (m:=8) (by omega)
 have e1:=congrArg UInt8.toNat (List.cons.inj (List.append_cancel_left e)).1
 simp only[UInt8.toNat_ofNat']at e1
 simp at e1
 omega
theorem parIts_eq (x:Parc):parIts x=parOP x++((edgesOf x.ring).map (fun e=>⟨edgKy e,idBy x.id⟩)++(cellsL x.ring).map (fun c=>⟨clKey x.id c,[]⟩)):=rfl
theorem parIts_nodup {x:Parc} (hg:∀q∈x.ring,good q=true) (hl:x.ring.length≤128) (he:(edgesOf x.ring).Nodup):((parIts x).map (·.k)).Nodup:=by
 rw[parIts_eq,List.map_append,List.map_append,List.map_map,List.map_map,List.nodup_append,List.nodup_append]
 refine⟨parOP_nodup hl,⟨?_,?_,?_⟩,?_⟩
 ·refine nodup_map_inj he fun e h1 f h2 e3=>?_
  obtain⟨g1,g2⟩:=edgK_good hg h1
  obtain⟨g3,g4⟩:=edgK_good hg h2
  exact edgKy_inj g1 g2 g3 g4 e3
 ·exact nodup_map_inj (cellsL_nodup _) fun c h1 d h2 e3=>(clKey_inj (cellsL_key h1) (cellsL_key h2) e3).1
 ·intro a ha b hb e
  obtain⟨u,-,rfl⟩:=List.mem_map.1 ha
  obtain⟨v,-,rfl⟩:=List.mem_map.1 hb
  exact absurd (List.cons.inj e).1 (by decide)
 ·intro a ha b hb e
  have h1:a.head?=some 112:=by
   obtain⟨i,hi,rfl⟩:=List.mem_map.1 ha
   unfold parOP at hi
   rcases List.mem_cons.1 hi with rfl|hi
   ·rfl
   ·obtain⟨k,-,rfl⟩:=List.mem_map.1 hi
    rfl
  have h2:b.head?=some 101∨b.head?=some 99:=by
   rcases List.mem_append.1 hb with hb|hb
   ·obtain⟨v,-,rfl⟩:=List.mem_map.1 hb
    exact .inl rfl
   ·obtain⟨v,-,rfl⟩:=List.mem_map.1 hb
    exact .inr rfl
  rw[e]at h1
  rw[h1]at h2
  revert h2
  decide
theorem planIts_nodup {p:Plan} (h:RecOK p):((planIts p).map (·.k)).Nodup:=by
 unfold planIts
 rw[List.map_append,List.map_flatMap,List.nodup_append]
 refine⟨ringIts_nodup _ _ _ h.out.2 (Nat.zero_le 1),?_,?_⟩
 ·have hE:=h.eds
  unfold allE at hE
  unfold List.Nodup at hE ⊢
  rw[List.pairwise_flatMap]at hE ⊢
  refine⟨fun x hx=>parIts_nodup (h.pcs x hx).2.1 (h.pcs x hx).2.2 (hE.1 x hx),?_⟩
  have hb:=List.pairwise_and_iff.2 ⟨h.ids,hE.2⟩
  refine List.Pairwise.imp_of_mem (fun {x y} hx hy hxy=>?_) hb
  intro a ha b hb e
  subst e
  have hne:x.id≠y.id:=by omega
  have hni:idBy x.id≠idBy y.id:=fun e=>hne (idBy_inj (h.pcs x hx).1 (h.pcs y hy).1 e)
  rcases par_keys ha with ⟨c,e1⟩|⟨e,he,e1⟩|⟨c,hc,e1⟩<;>rcases par_keys hb with ⟨d,e2⟩|⟨f,hf,e2⟩|⟨d,hd,e2⟩
  ·rw[e1]at e2
   have:=(List.append_inj e2 (by unfold pcHead;rw[List.length_cons,List.length_cons,idBy_len,idBy_len])).1
   exact hni (List.cons.inj this).2
  ·rw[e1]at e2;exact absurd (List.cons.inj e2).1 (by decide)
  ·rw[e1]at e2;exact absurd (List.cons.inj e2).1 (by decide)
  ·rw[e1]at e2;exact absurd (List.cons.inj e2).1 (by decide)
  ·rw[e1]at e2
   obtain⟨g1,g2⟩:=edgK_good (h.pcs x hx).2.1 he
   obtain⟨g3,g4⟩:=edgK_good (h.pcs y hy).2.1 hf
   exact hxy.2 e he f hf (edgKy_inj g1 g2 g3 g4 e2)
  ·rw[e1]at e2;exact absurd (List.cons.inj e2).1 (by decide)
  ·rw[e1]at e2;exact absurd (List.cons.inj e2).1 (by decide)
  ·rw[e1]at e2;exact absurd (List.cons.inj e2).1 (by decide)
  ·rw[e1]at e2;exact hni (clKey_inj (cellsL_key hc) (cellsL_key hd) e2).2
 ·intro a ha b hb e
  have h1:a.head?=some 111:=by
   rw[ringIts_keys]at ha
   obtain⟨k,-,rfl⟩:=List.mem_map.1 ha
   rfl
  obtain⟨x,-,hb⟩:=List.mem_flatMap.1 hb
  rw[e]at h1
  rcases par_keys hb with ⟨d,e2⟩|⟨f,hf,e2⟩|⟨d,hd,e2⟩<;>rw[e2]at h1<;>revert h1<;>simp[pcHead,edgKy,clKey]
end Go.Proofs.YtpkeacnacjnlcaaGreat
namespace Go.Proofs.YtpkeacnacjnlcaaGreat
open Go.RowKit Go.Lib
theorem PlanOwn.snoc {B n c n' c' m c3 cp':Nat} {W W':World} {A A' A3 Ap':Option Addr} {p:Plan} {hs:List Hd} {x:Parc} (h:PlanOwn B W A n c A' n' c' p hs) (hnew:W.ownsRow B 23 2 (.slice A3 m c3) m (ptsV x.ring))
 (hown:W'.ownsRow B 27 3 (.slice Ap' (n'+1) cp') (n'+1) (rowPV p.parcels hs++pcV x (A3,m,c3))) (hg:W.grownBy W' (Value.slice A' n' c').ownBlock) (hf:(⟨p.outer,p.parcels++[x]⟩:Plan).fits):
 PlanOwn B W' A n c Ap' (n'+1) cp' ⟨p.outer,p.parcels++[x]⟩ (hs++[(A3,m,c3)]):=by
 have hkeep:∀ {v:Value} {j:Nat} {xs:List Value},W.ownsRow B 23 2 v j xs→W'.ownsRow B 23 2 v j xs:=fun {v j xs} ho=>by
  refine own_heap ho fun i hi=>hg.block i (ho.lt i hi).2 (fun e=>?_)
  exact own_own_ne h.row ho (by decide) (g:=i) e.symm hi
 have hl:=h.lenp
 have hl2:=h.len
 refine⟨hkeep h.out,?_,by simp[hl2],by simp[hl],fun j hj=>?_,hf⟩
 ·show World.ownsRow _ _ _ _ _ _ (rowPV (p.parcels++[x]) _)
  rw[rowPV_snoc _ _ (by omega)]
  exact hown
 ·by_cases hjn:j<n'
  ·rw[hdAt_snoc_lt (by omega)]
   have e:pcAt (p.parcels++[x]) j=pcAt p.parcels j:=by unfold pcAt;rw[List.getElem?_append_left (by omega)]
   show World.ownsRow _ _ _ _ _ _ (ptsV (pcAt (p.parcels++[x]) j).ring)
   rw[e]
   exact hkeep (h.rings j hjn)
  ·obtain rfl:j=hs.length:=by omega
   rw[hdAt_snoc_eq]
   have e:pcAt (p.parcels++[x]) hs.length=x:=by unfold pcAt;rw[hl2,←hl];simp
   show World.ownsRow _ _ _ _ _ _ (ptsV (pcAt (p.parcels++[x]) hs.length).ring)
   rw[e]
   exact hkeep hnew
theorem fits_perm {o:List Pt} {ps qs:List Parc} (hp:qs.Perm ps) (h:(⟨o,ps⟩:Plan).fits):(⟨o,qs⟩:Plan).fits:=⟨h.1,by show qs.length≤_;rw[hp.length_eq];exact h.2.1,fun x hx=>h.2.2 x (hp.mem_iff.1 hx)⟩
theorem PlanOwn.sorted {B n c n' cp g:Nat} {W W':World} {A:Option Addr} {p:Plan} {hs:List Hd} {d:List PcH} (h:PlanOwn B W A n c (some ⟨g,0,none⟩) n' cp p hs) (hd:d.Perm (p.parcels.zip hs))
 (hown:W'.ownsRow B 27 3 (.slice (some ⟨g,0,none⟩) n' cp) n' (pchV d)) (hg:W.grownBy W' (some g)):PlanOwn B W' A n c (some ⟨g,0,none⟩) n' cp ⟨p.outer,d.map (·.1)⟩ (d.map (·.2)):=by
 have hkeep:∀ {v:Value} {j:Nat} {xs:List Value},W.ownsRow B 23 2 v j xs→W'.ownsRow B 23 2 v j xs:=fun {v j xs} ho=>by
  refine own_heap ho fun i hi=>hg.block i (ho.lt i hi).2 (fun e=>?_)
  exact own_own_ne h.row ho (by decide) (g:=i) e.symm hi
 have hl:=h.lenp
 have hl2:=h.len
 have hdl:d.length=n':=by rw[hd.length_eq,List.length_zip,hl,hl2,Nat.min_self]
 have hmap:(d.map (·.1)).Perm p.parcels:=by
  have:=hd.map (·.1)
  rwa [List.map_fst_zip (by omega)]at this
 refine⟨hkeep h.out,by rw[←pch_rowPV];exact hown,by simp[hdl],by simp[hdl],fun j hj=>?_,fits_perm hmap h.fits⟩
 have hjd:j<d.length:=by omega
 have hm:d[j]∈p.parcels.zip hs:=hd.mem_iff.1 (List.getElem_mem hjd)
 obtain⟨i,hi,he⟩:=List.getElem_of_mem hm
 rw[List.length_zip]at hi
 have hi1:i<p.parcels.length:=by omega
 have hi2:i<hs.length:=by omega
 rw[List.getElem_zip]at he
 have e1:hdAt (d.map (·.2)) j=hdAt hs i:=by
  unfold hdAt
  rw[List.getElem?_map,List.getElem?_eq_getElem hjd,List.getElem?_eq_getElem hi2,←he]
  rfl
 have e2:pcAt (d.map (·.1)) j=pcAt p.parcels i:=by
  unfold pcAt
  rw[List.getElem?_map,List.getElem?_eq_getElem hjd,List.getElem?_eq_getElem hi1,←he]
  rfl
 show World.ownsRow _ _ _ _ _ _ (ptsV (pcAt (d.map (·.1)) j).ring)
 rw[e1,e2]
 exact hkeep (h.rings i (by omega))
theorem PlanOwn.hdC {B n c n' c' k:Nat} {W:World} {A:Option Addr} {ad:Addr} {p:Plan} {hs:List Hd} (h:PlanOwn B W A n c (some ad) n' c' p hs) (hk:k<n'):W.cell? ⟨(ad.add (k*3)).block,(ad.add (k*3)).off+1,none⟩=some (.slice (hdAt hs k).1 (hdAt hs k).2.1 (hdAt hs k).2.2):=by
 obtain⟨ad',e,hb,hc⟩:=(Reads.of_own h.row).2 (by omega)
 cases e
 obtain⟨-,g2,-⟩:=rowPV_at (hs:=hs) (ps:=p.parcels) (by rw[h.len,h.lenp]) (k:=k) (by rw[h.lenp];exact hk)
 rw[add_off3 _ _ _ (by omega)]
 exact hc _ _ g2
theorem PlanOwn.frzC {B n c n' c' k:Nat} {W:World} {A:Option Addr} {ad:Addr} {p:Plan} {hs:List Hd} (h:PlanOwn B W A n c (some ad) n' c' p hs) (hk:k<n'):W.frozen? ⟨(ad.add (k*3)).block,(ad.add (k*3)).off+1,none⟩=false:=by
 obtain⟨g,cap,e,hb,hlt⟩:=h.row.form (by omega)
 have e1:ad=⟨g,0,none⟩:=by cases e;rfl
 have e2:cap=c':=by cases e;rfl
 subst e1 e2
 have hadr:(⟨((⟨g,0,none⟩:Addr).add (k*3)).block,((⟨g,0,none⟩:Addr).add (k*3)).off+1,none⟩:Addr)=⟨g,k*3+1,none⟩:=by rw[add_off3 _ _ _ (by omega)];simp[Addr.add]
 rw[hadr]
 exact h.row.frozenAt _
end Go.Proofs.YtpkeacnacjnlcaaGreat
namespace Go.Proofs.YtpkeacnacjnlcaaGreat
theorem planB_yes {p:Plan} (h:SoundP p):planB p=true:=by unfold planB;simpa using h
end Go.Proofs.YtpkeacnacjnlcaaGreat
