/- record.points: the walk; Items that are a plan's, in whatever order; one that is missing, twice or another: plain laws. -/
import Derived.Test.YtpkeacnacjnlcaaGreatK03
import Derived.Test.YtpkeacnacjnlcaaGreatK07
import Derived.Test.YtpkeacnacjnlcaaGreatK15
import Derived.Test.YtpkeacnacjnlcaaGreatK17
import Derived.Test.YtpkeacnacjnlcaaGreatK19
namespace Go.Proofs.YtpkeacnacjnlcaaGreat
open Go.RowKit Go.Lib Go.Shelf
attribute [local go_sem] Go.Oper.semAt_some
/-- The items of the parts that came. -/
def ptIts (hd:List UInt8) (r:List Pt) (s:Nat) (pre:List Nat):List It:=pre.zipIdx.map fun y=>⟨hd++[UInt8.ofNat (s+y.2)],chunkB r y.1⟩
theorem ptIts_snoc (hd:List UInt8) (r:List Pt) (s:Nat) (pre:List Nat) (x:Nat):ptIts hd r s (pre++[x])=ptIts hd r s pre++[⟨hd++[UInt8.ofNat (s+pre.length)],chunkB r x⟩]:=by
 unfold ptIts
 rw[List.zipIdx_append,List.map_append]
 simp
theorem ptIts_range (hd:List UInt8) (r:List Pt) (s:Nat):ptIts hd r s (List.range (chkN r.length))=ringIts hd r s:=by
 unfold ptIts ringIts
 refine List.ext_getElem (by simp) fun i h1 h2=>?_
 simp
/-- All that holds between the rounds. -/
structure PtsF (w W:World) (A:Option Addr) (k c:Nat) (d:List ItH) (Ah:Option Addr) (nh ch:Nat) (z:Int) (ad:Addr) (n cap:Nat):Prop where
 out:Boxed W (w.heap.size+2) 43 (.slice A k c)
 own:ItsOwn w.heap.size W A k c d
 hed:Boxed W w.heap.size 50 (.slice Ah nh ch)
 num:Boxed W (w.heap.size+1) 3 (.int .i64 z)
 rng:Boxed W (w.heap.size+3) 25 (.slice (some ad) n cap)
 siz:Boxed W (w.heap.size+4) 3 (.int .i64 16)
 bel:Below w.heap.size w W
theorem PtsF.lt {w W:World} {A Ah:Option Addr} {k c nh ch n cap:Nat} {d:List ItH} {z:Int} {ad:Addr} (h:PtsF w W A k c d Ah nh ch z ad n cap):w.heap.size+4<W.heap.size:=h.siz.lt
theorem PtsF.on {w W W':World} {A Ah:Option Addr} {k c nh ch n cap:Nat} {d:List ItH} {z:Int} {ad:Addr} (h:PtsF w W A k c d Ah nh ch z ad n cap) (hb:Below W.heap.size W W'):PtsF w W' A k c d Ah nh ch z ad n cap:=
 ⟨Blk.below h.out hb h.out.lt,h.own.below hb,Blk.below h.hed hb h.hed.lt,Blk.below h.num hb h.num.lt,Blk.below h.rng hb h.rng.lt,Blk.below h.siz hb h.siz.lt,below_on h.bel (Nat.le_refl _) hb⟩
theorem PtsF.keep {w W W':World} {A Ah A':Option Addr} {k c nh ch n cap k' c':Nat} {d d':List ItH} {z z':Int} {ad:Addr} (h:PtsF w W A k c d Ah nh ch z ad n cap) (h':PtsF w W' A' k' c' d' Ah nh ch z' ad n cap) (hs:W.heap.size≤W'.heap.size):KeepC w.heap.size (w.heap.size+3) W W':=
 ⟨hs,fun i hi=>by
   rcases hi with hi|rfl|rfl
   ·exact(h'.bel.block i hi).trans (h.bel.block i hi).symm
   ·exact(show _=_ from h'.rng).trans (show _=_ from h.rng).symm
   ·exact(show _=_ from h'.siz).trans (show _=_ from h.siz).symm⟩
theorem OwnIt.turn {base:Nat} {W W':World} {row:Option Nat} {e:ItH} (h:OwnIt base W e) (hg:W.grownBy W' row) (hr:∀r,row=some r→∃o:Obj,W.heap[r]?=some o∧o.isCells=false):OwnIt base W' e:=
 h.heap hg.size fun g _ _ hb=>hg.block g (Array.getElem?_eq_some_iff.1 hb).1 fun e=>by
  obtain⟨o,h1,h2⟩:=hr g e.symm
  rw[hb]at h1
  cases h1
  cases h2
theorem ItsOwn.turn {base:Nat} {W W':World} {row:Option Nat} {A:Option Addr} {n c:Nat} {d:List ItH} (h:ItsOwn base W A n c d) (hg:W.grownBy W' row) (hr:∀r,row=some r→∃o:Obj,W.heap[r]?=some o∧o.isCells=false):ItsOwn base W' A n c d:=by
 refine⟨own_heap h.1 fun g e=>?_,fun x hx=>(h.2 x hx).turn hg hr⟩
 rcases h.1.2 with ⟨h1,-⟩|⟨g',c',cur,h1,-,hb,-⟩
 ·cases h1;simp[Value.ownBlock]at e
 ·cases h1
  simp[Value.ownBlock]at e
  subst e
  refine hg.block g' (Blk.lt hb) fun e=>?_
  obtain⟨o,h1,h2⟩:=hr g' e.symm
  rw[show W.heap[g']?=_ from hb]at h1
  cases h1
  cases h2
/-- A store into a box leaves them. -/
theorem ItsOwn.store {base:Nat} {W:World} {A:Option Addr} {n c g:Nat} {d:List ItH} {t:TypeId} {cs:Array Value} (h:ItsOwn base W A n c d) (hg:Blk W g t cs) (h1:52≠t) (h2:5≠t) (i:Nat) (v:Value):ItsOwn base (W.setCell ⟨g,i,none⟩ v) A n c d:=
 ⟨own_heap h.1 fun k hk=>Below.heap_setCell _ _ _ k (fun e=>own_blk_ne h.1 hg h1 (by rw[hk,e])),fun x hx=>(h.2 x hx).heap (by rw[World.size_setCell];exact Nat.le_refl _) fun k _ _ hb=>Below.heap_setCell _ _ _ k (fun e=>by subst e;rw[show W.heap[k]?=_ from hg]at hb;cases hb;exact h2 rfl)⟩
/-- The row of items, one more, and its box. -/
theorem PtsF.put {w V Y w10:World} {A Ah A10:Option Addr} {k c nh ch n cap c10:Nat} {d:List ItH} {z:Int} {ad:Addr} {e:ItH} (h:PtsF w V A k c d Ah nh ch z ad n cap) (hB:Below V.heap.size V Y) (he:OwnIt w.heap.size Y e)
 (hown:w10.ownsRow w.heap.size 52 2 (.slice A10 (k+1) c10) (k+1) (itsV d++itsV [e])) (hg:Y.grownBy w10 (Value.slice A k c).ownBlock):
 w10.cell? ⟨w.heap.size+2,0,none⟩=some (.slice A k c)∧w10.frozen? ⟨w.heap.size+2,0,none⟩=false∧V.heap.size≤w10.heap.size∧(∀u1 u2,Y.cell? ⟨w.heap.size,0,none⟩=some u1∧Y.cell? ⟨w.heap.size+1,0,none⟩=some u2∧V.heap.size≤Y.heap.size→w10.cell? ⟨w.heap.size,0,none⟩=some u1∧w10.cell? ⟨w.heap.size+1,0,none⟩=some u2∧V.heap.size≤w10.heap.size)∧
 PtsF w (w10.setCell ⟨w.heap.size+2,0,none⟩ (.slice A10 (k+1) c10)) A10 (k+1) c10 (d++[e]) Ah nh ch z ad n cap∧KeepsOthers V (w10.setCell ⟨w.heap.size+2,0,none⟩ (.slice A10 (k+1) c10)):=by
 have hY:=h.on hB
 have bo:=hY.out.kept hg (hY.out.not_row (by decide) hY.own.1)
 have bh:=hY.hed.kept hg (hY.hed.not_row (by decide) hY.own.1)
 have bn:=hY.num.kept hg (hY.num.not_row (by decide) hY.own.1)
 have br:=hY.rng.kept hg (hY.rng.not_row (by decide) hY.own.1)
 have bs:=hY.siz.kept hg (hY.siz.not_row (by decide) hY.own.1)
 have hi:=hY.own.append (fun x hx=>by rw[List.mem_singleton.1 hx];exact he) hown hg
 have hsz:=Nat.le_trans hB.size hg.size
 have hbel:=hY.bel.grown hg hY.bel.size (fun j e=>(hY.own.1.lt j e).1)
 have hko:KeepsOthers Y w10:=KeepsOthers.of_grownBy hg fun j o e ho=>by
  rcases hY.own.1.2 with ⟨h1,-⟩|⟨g',c',cur,h1,-,hb,-⟩
  ·cases h1;simp[Value.ownBlock]at e
  ·cases h1
   simp[Value.ownBlock]at e
   subst e
   rw[show Y.heap[g']?=_ from hb]at ho
   cases ho
   rfl
 refine⟨bo.cell,bo.frozen,hsz,fun u1 u2 hu=>?_,⟨bo.set _,hi.store bo (by decide) (by decide) 0 _,bh.other (by omega) _,bn.other (by omega) _,br.other (by omega) _,bs.other (by omega) _,hbel.setCell (p:=⟨w.heap.size+2,0,none⟩) (by simp) _⟩,((keeps_below hB).trans hko).trans (KeepsOthers.setCell _ _ _)⟩
 have e1:=hY.hed.cell.symm.trans hu.1
 have e2:=hY.num.cell.symm.trans hu.2.1
 exact⟨bh.cell.trans e1,bn.cell.trans e2,hsz⟩
theorem PtsF.turn {w W W':World} {row:Option Nat} {A Ah:Option Addr} {k c nh ch n cap:Nat} {d:List ItH} {z:Int} {ad:Addr} (h:PtsF w W A k c d Ah nh ch z ad n cap) (hg:W.grownBy W' row) (hr:∀r,row=some r→w.heap.size+5≤r∧∃o:Obj,W.heap[r]?=some o∧o.isCells=false):PtsF w W' A k c d Ah nh ch z ad n cap:=by
 have hn:∀ {i:Nat},i<w.heap.size+5→some i≠row:=fun {i} hi e=>by have:=(hr i e.symm).1;omega
 exact⟨h.out.kept hg (hn (by omega)),h.own.turn hg (fun r e=>(hr r e).2),h.hed.kept hg (hn (by omega)),h.num.kept hg (hn (by omega)),h.rng.kept hg (hn (by omega)),h.siz.kept hg (hn (by omega)),h.bel.grown hg h.bel.size (fun j e=>by have:=(hr j e).1;omega)⟩
theorem hldP {w V X Y:World} {u1 u2:Value} (hh:w.heap.size+1<V.heap.size) (hs:X.cell? ⟨w.heap.size,0,none⟩=some u1∧X.cell? ⟨w.heap.size+1,0,none⟩=some u2∧V.heap.size≤X.heap.size) (hb:Below X.heap.size X Y):
 Y.cell? ⟨w.heap.size,0,none⟩=some u1∧Y.cell? ⟨w.heap.size+1,0,none⟩=some u2∧V.heap.size≤Y.heap.size:=by
 obtain⟨h1,h2,h3⟩:=hs
 exact⟨(hb.cell (p:=⟨w.heap.size,0,none⟩) (by simp only;omega)).trans h1,(hb.cell (p:=⟨w.heap.size+1,0,none⟩) (by simp only;omega)).trans h2,Nat.le_trans h3 hb.size⟩
theorem hldPb {w V Y:World} {u1 u2:Value} (hh:w.heap.size+1<V.heap.size) (h1:V.cell? ⟨w.heap.size,0,none⟩=some u1∧V.cell? ⟨w.heap.size+1,0,none⟩=some u2) (hb:Below V.heap.size V Y):
 Y.cell? ⟨w.heap.size,0,none⟩=some u1∧Y.cell? ⟨w.heap.size+1,0,none⟩=some u2∧V.heap.size≤Y.heap.size:=
 ⟨(hb.cell (p:=⟨w.heap.size,0,none⟩) (by simp only;omega)).trans h1.1,(hb.cell (p:=⟨w.heap.size+1,0,none⟩) (by simp only;omega)).trans h1.2,hb.size⟩
theorem hldPc {w V X:World} {u1 u2 u:Value} {p:Addr} (n1:w.heap.size≠p.block) (n2:w.heap.size+1≠p.block) (hs:X.cell? ⟨w.heap.size,0,none⟩=some u1∧X.cell? ⟨w.heap.size+1,0,none⟩=some u2∧V.heap.size≤X.heap.size):
 (X.setCell p u).cell? ⟨w.heap.size,0,none⟩=some u1∧(X.setCell p u).cell? ⟨w.heap.size+1,0,none⟩=some u2∧V.heap.size≤(X.setCell p u).heap.size:=
 ⟨(World.cell?_setCell_other _ _ _ _ (fun e=>n1 (by rw[e]))).trans hs.1,(World.cell?_setCell_other _ _ _ _ (fun e=>n2 (by rw[e]))).trans hs.2.1,by rw[World.size_setCell];exact hs.2.2⟩
set_option maxRecDepth 100000 in
set_option maxHeartbeats 3200000 in
theorem points_any (hd:List UInt8) (Ah:Option Addr) (nh ch:Nat) (r:List Pt) (ad:Addr) (n cap s:Nat) (w:World) (hh0:Reads w w.heap.size 1 Ah nh (u8s hd)) (hr0:Reads w w.heap.size 2 (some ad) n (ptsV r)) (hn:n≤128) (hcap:n≤cap∧cap≤9223372036854775807) (hg:∀q∈r,good q=true) (hs:s≤1) (hl:nh≤1000):
 Calls Tryz.prog 48 #[.slice Ah nh ch,.slice (some ad) n cap,.int .i64 (s:Int)] w fun e w'=>∃A' c' d,e= .returned (.slice A' (chkN n) c')∧ItsOwn w.heap.size w' A' (chkN n) c' d∧d.map (·.1)=ringIts hd r s∧Below w.heap.size w w':=by
 have HG:=Lib.hid hg
 have hrl:r.length=n:=hr0.lenPt
 have hhl:hd.length=nh:=hh0.len8
 have HL:=Lib.hid (And.intro hrl hhl)
 have HR:=Lib.hid (And.intro hh0 hr0)
 clear hg hrl hhl hh0 hr0
 refine(callsIn_wide (n:=3)).1 ?_
 refine callsIn_of_wp_marks Tryz.func48 rfl trivial ?_ rfl
 simp only[Tryz.ntmps48,List.size_toArray,List.length_cons,List.length_nil,Nat.reduceAdd,Nat.reduceSub,Array.replicate_succ,Array.replicate_zero,List.push_toArray,List.append_toArray,List.nil_append,List.cons_append]
 gi_wp2_with fail
 refine⟨trivial,?_⟩
 refine(callsIn_wide.2 (chunk_any (some ad) n cap _)).mono ?_
 rintro e w3 ⟨rfl,rfl⟩
 gi_wp2_with fail
 obtain⟨w0,hw0⟩:∃w0,w0=((((w.alloc (.cells #[.slice Ah nh ch] 50)).alloc (.cells #[.int .i64 (s:Int)] 3)).alloc (.cells #[.slice none 0 0] 43)).alloc (.cells #[.slice (some ad) n cap] 25)).alloc (.cells #[.int .i64 16] 3):=⟨_,rfl⟩
 have hz0:w0.heap.size=w.heap.size+5:=by rw[hw0];simp
 have hF0:PtsF w w0 none 0 0 [] Ah nh ch (s:Int) ad n cap:=by
  have b1:=Boxed.new w 50 (.slice Ah nh ch)
  have b2:=Boxed.new (w.alloc (.cells #[.slice Ah nh ch] 50)) 3 (.int .i64 (s:Int))
  have b3:=Boxed.new ((w.alloc (.cells #[.slice Ah nh ch] 50)).alloc (.cells #[.int .i64 (s:Int)] 3)) 43 (.slice none 0 0)
  have b4:=Boxed.new (((w.alloc (.cells #[.slice Ah nh ch] 50)).alloc (.cells #[.int .i64 (s:Int)] 3)).alloc (.cells #[.slice none 0 0] 43)) 25 (.slice (some ad) n cap)
  have b5:=Boxed.new ((((w.alloc (.cells #[.slice Ah nh ch] 50)).alloc (.cells #[.int .i64 (s:Int)] 3)).alloc (.cells #[.slice none 0 0] 43)).alloc (.cells #[.slice (some ad) n cap] 25)) 3 (.int .i64 16)
  simp only[World.size_alloc]at b2 b3 b4 b5
  have hB:Below w.heap.size w w0:=by rw[hw0];exact(((((Below.refl _ _).alloc (Nat.le_refl _) _).alloc (by simp) _).alloc (by simp;omega) _).alloc (by simp;omega) _).alloc (by simp;omega) _
  rw[hw0]
  rw[hw0]at hB
  exact⟨((b3.alloc _).alloc _),itsOwn_nil _ _,(((b1.alloc _).alloc _).alloc _).alloc _,((b2.alloc _).alloc _).alloc _,b4.alloc _,b5,hB⟩
 refine wpIn_named fun W0 hW0=>?_
 obtain rfl:W0=w0:=by rw[hW0,hw0]
 clear hW0 hw0
 refine wpIn_rangeFunc_ownH rfl (by omega) (gf:=152) (lb:=#[.pointer (some ⟨w.heap.size+3,0,none⟩),.pointer (some ⟨w.heap.size+4,0,none⟩)]) rfl trivial (enters_of Tryz.func152 (by kernel_rfl) rfl)
  (chunk_stops 2 (by omega) w.heap.size (w.heap.size+3) cap n ad (by omega) hcap.1 hcap.2 W0 (by omega) hF0.rng.cell hF0.siz.cell) (fun h k=>h.trans k)
  (fun W l o o' hl h _ _=>⟨by simp,fun i hi=>World.putObj_heap_other (by omega)⟩) (Below.refl _ _) (fun _=>rfl)
  (fun pre W=>∃A c d,PtsF w W A pre.length c d Ah nh ch ((s+pre.length:Nat):Int) ad n cap∧d.map (·.1)=ptIts hd r s pre)
  (fun _ _ _=>False)
  (fun pre X Y row hs hg hrow=>by
    obtain⟨A,c,d,h1,h2⟩:=hs
    exact⟨A,c,d,h1.turn hg (fun r e=>by have:=hrow r e;rw[hz0]at this;exact this),h2⟩)
  (fun _ _ _ _ _ hs _ _=>hs)
  ⟨none,0,[],hF0,rfl⟩
  (fun x a' W=>a'={ tmps:=#[.slice Ah nh ch,.slice (some ad) n cap,.int .i64 (s:Int),.pointer (some ⟨w.heap.size,0,none⟩),undef,.pointer (some ⟨w.heap.size+1,0,none⟩),.slice none 0 0,.pointer (some ⟨w.heap.size+2,0,none⟩),.slice (some (ad.add (16*x*2))) (chkM n x) (chkM n x),undef,undef,undef,.slice (some ad) n cap,.func (.func 152) #[] #[.pointer (some ⟨w.heap.size+3,0,none⟩),.pointer (some ⟨w.heap.size+4,0,none⟩)],.slice (some (ad.add (16*x*2))) (chkM n x) (chkM n x),undef,undef,undef,undef,undef,undef,undef,undef,undef,undef,undef,undef,undef,undef,undef,undef,undef,undef,undef,undef,undef,undef,undef,undef],defers:=[] })
  (fun x a'=>fun s X Y row hs hg hrow=>hs) ?assign ?body ?done ?stop
 case assign=>
  rintro l pre x W K hI hK
  unfold chkAt
  gi_wp2
  exact hK _ _ ((KeepsOthers.refl _).from _) (KeepC.refl _ _ _) hI rfl
 case body=>
  rintro l pre x a' W hl' ⟨rl,hrr⟩ ⟨A8,c8,d,hF,hd0⟩ rfl hlen
  have hpl:pre.length<8:=by have:=chkN_le (n:=n) (m:=8) (by omega);omega
  obtain⟨m,hm⟩:∃m,m=chkM n x:=⟨_,rfl⟩
  obtain⟨bd,hbd⟩:∃bd,bd=ad.add (16*x*2):=⟨_,rfl⟩
  rw[←hm,←hbd]
  have hm16:m≤16:=by rw[hm];unfold chkM;omega
  have HM:=Lib.hid (And.intro hm hbd)
  have HW:=Lib.hid (And.intro hF hd0)
  clear hm hbd hF hd0 hrr
  dsimp only
  gi_wp2_with fail
  gi_loopw [9,17] (fun v i wr=>∃(j:Nat) (A':Option Addr) (c':Nat),j≤m∧i= .int .i64 (j:Int)∧v= .slice A' (8*j) c'∧Hid (wr.ownsRow w.heap.size 5 1 (.slice A' (8*j) c') (8*j) (u8s ((((r.drop (16*x)).take 16).take j).flatMap ptB))∧Below W.heap.size W wr)) (fun _ i _=>m-(intOf i).toNat)
  case atStart=>exact⟨0,none,0,Nat.zero_le _,rfl,rfl,World.ownsRow_nil _ _ _ _,Below.refl _ _⟩
  case round=>
   obtain⟨j,A7,c7,hj,rfl,rfl,HB⟩:=hrel
   obtain⟨V,rfl⟩:∃X,X=wr:=⟨_,rfl⟩
   by_cases hlt:j<m
   ·have hlt':(j:Int)<(m:Int):=by omega
    have hw1:IntKind.i64.wrap ((j:Int)+1)=((j+1:Nat):Int):=by rw[IntKind.wrap_i64];omega
    have hkx:16*x+j<n:=by have h1:=HM.out.1;unfold chkM at h1;omega
    have hFV:=HW.out.1.on HB.out.2
    have hrV:=HR.out.2.below hFV.bel
    obtain⟨-,p1,p2⟩:=hrV.ptA hkx
    have e1:ad.add ((16*x+j)*2)=bd.add (j*2):=by rw[HM.out.2,add_of_add,Nat.add_mul]
    rw[e1]at p1 p2
    obtain⟨q,hq⟩:∃q,q=ptAt r (16*x+j):=⟨_,rfl⟩
    rw[←hq]at p1 p2
    have hgq:good q=true:=by rw[hq];exact HG.out _ (ptAt_mem (by have:=HL.out.1;omega))
    have htk:(((r.drop (16*x)).take 16).take (j+1)).flatMap ptB=(((r.drop (16*x)).take 16).take j).flatMap ptB++ptB q:=by
     have h1:=HL.out.1
     have h2:j<((r.drop (16*x)).take 16).length:=by rw[List.length_take,List.length_drop];omega
     rw[List.take_succ_eq_append_getElem h2,List.flatMap_append]
     congr 1
     rw[List.getElem_take,List.getElem_drop,hq,ptAt_lt (by omega)]
     simp
    have hl8:((((r.drop (16*x)).take 16).take j).flatMap ptB).length=8*j:=(Reads.of_own HB.out.1).len8
    obtain⟨cb,hcb⟩:∃cb,cb=(((r.drop (16*x)).take 16).take j).flatMap ptB:=⟨_,rfl⟩
    rw[←hcb]at HB htk hl8
    have HQ:=Lib.hid (And.intro hgq (And.intro htk hl8))
    have HBL:=Lib.hid (And.intro HB.out.1 (And.intro HB.out.2 hFV.bel.size))
    clear hq hgq htk hl8 hcb hrV hFV HB hkx e1
    obtain⟨V1,hV1⟩:∃X,X=V.alloc (.cells #[.int .i64 q.x,.int .i64 q.y] 23):=⟨_,rfl⟩
    have hb1:Below V.heap.size V V1:=by rw[hV1];exact(Below.refl _ _).alloc (Nat.le_refl _) _
    have HV1:=Lib.hid (And.intro (own_below HBL.out.1 hb1) (below_on HBL.out.2.1 (Nat.le_refl _) hb1))
    clear hb1
    gi_wp2_with fail
    rw[←hV1]
    clear hV1 p1 p2
    refine⟨trivial,?_⟩
    refine(CallsIn.inRound l (callsIn_wide.2 (point_any cb A7 (8*j) c7 q HQ.out.1 V1 (Reads.of_own HV1.out.1) (by omega)))).mono ?_
    rintro e V2 ⟨A2,c2,rfl,ho2,hb2⟩
    have hll:(cb++ptB q).length=8*(j+1):=by rw[List.length_append,ptB_len,HQ.out.2.2];omega
    rw[hll,←HQ.out.2.1]at ho2
    rw[hll]
    have H2:=Lib.hid (And.intro (own_mono ho2 (Nat.le_trans HW.out.1.bel.size HV1.out.2.size)) (below_on HV1.out.2 (Nat.le_refl _) hb2))
    clear ho2 hb2 hll
    gi_wp2_with fail
    go_roundw
    case rel=>exact⟨j+1,A2,c2,by omega,by first|rfl|exact congrArg (Value.int .i64) hw1,rfl,H2.out⟩
    case measure=>simp[intOf];omega
   ·obtain rfl:j=m:=by omega
    have hFV:=HW.out.1.on HB.out.2
    have hch:(((r.drop (16*x)).take 16).take j).flatMap ptB=chunkB r x:=by
     unfold chunkB
     rw[List.take_of_length_le]
     have h1:=HL.out.1
     have h2:=HM.out.1
     unfold chkM at h2
     rw[List.length_take,List.length_drop]
     omega
    rw[hch]at HB
    obtain⟨z,hz⟩:∃z,z=s+pre.length:=⟨_,rfl⟩
    have hz9:z<9:=by omega
    rw[←hz]at hFV
    have HZB:Hid (#[Value.int .u8 (z:Int)].toList=u8s [UInt8.ofNat z]):=by
     show[Value.int .u8 (z:Int)]=[Value.int .u8 ((UInt8.ofNat z).toNat:Int)]
     rw[UInt8.toNat_ofNat',Nat.mod_eq_of_lt (by omega)]
    have hwz:IntKind.u8.wrap (z:Int)=(z:Int):=by rw[IntKind.wrap_u8];omega
    have HO:=Lib.hid (fun V' (hV':Below V.heap.size V V')=>(hV'.cell (p:=⟨w.heap.size+2,0,none⟩) hFV.out.lt).trans hFV.out.cell)
    have HF:=Lib.hid (And.intro hFV.bel.size (And.intro (fun V' (hV':Below V.heap.size V V')=>((HR.out.1.below hFV.bel).more hFV.bel.size).on hV') True.intro))
    have HN:=Lib.hid (And.intro (show hd.length+1≤maxLen∧(hd.length+1)*1≤140737488355328 by have:=HL.out.2;constructor<;>(try simp only[maxLen])<;>omega) (And.intro (show pre.length+1≤maxLen∧(pre.length+1)*48≤140737488355328 by constructor<;>(try simp only[maxLen])<;>omega) (show nh≤140737488355000 by omega)))
    have HX:=Lib.hid (And.intro hFV.own HB.out.1)
    have HE:Hid (∀ {Y w10:World} {A6 A10:Option Addr} {c6 c10:Nat},Below V.heap.size V Y→Y.ownsRow V.heap.size 5 1 (.slice A6 (hd.length+1) c6) (hd.length+1) (u8s (hd++[UInt8.ofNat z]))→Y.ownsRow w.heap.size 5 1 (.slice A7 (8*j) c7) (8*j) (u8s (chunkB r x))→
     w10.ownsRow w.heap.size 52 2 (.slice A10 (pre.length+1) c10) (pre.length+1) (itsV d++itsV [(⟨hd++[UInt8.ofNat z],chunkB r x⟩,(A6,hd.length+1,c6),(A7,8*j,c7))])→Y.grownBy w10 (Value.slice A8 pre.length c8).ownBlock→
     w10.cell? ⟨w.heap.size+2,0,none⟩=some (.slice A8 pre.length c8)∧w10.frozen? ⟨w.heap.size+2,0,none⟩=false∧(∀u1 u2,Y.cell? ⟨w.heap.size,0,none⟩=some u1∧Y.cell? ⟨w.heap.size+1,0,none⟩=some u2∧V.heap.size≤Y.heap.size→w10.cell? ⟨w.heap.size,0,none⟩=some u1∧w10.cell? ⟨w.heap.size+1,0,none⟩=some u2∧V.heap.size≤w10.heap.size)∧
     ∃A' c' d',PtsF w (w10.setCell ⟨w.heap.size+2,0,none⟩ (.slice A10 (pre.length+1) c10)) A' (pre.length+1) c' d' Ah nh ch (z:Int) ad n cap∧d'.map (·.1)=ptIts hd r s (pre++[x])∧KeepsOthers W (w10.setCell ⟨w.heap.size+2,0,none⟩ (.slice A10 (pre.length+1) c10))):=by
     intro Y w10 A6 A10 c6 c10 hB hk hv hown hg
     obtain⟨h1,h2,-,h4,h5,h6⟩:=hFV.put hB (e:=(⟨hd++[UInt8.ofNat z],chunkB r x⟩,(A6,hd.length+1,c6),(A7,8*j,c7))) ⟨NewB.of_own (own_mono hk hFV.bel.size),NewB.of_own hv⟩ hown hg
     refine⟨h1,h2,h4,_,_,_,h5,?_,(keeps_below HB.out.2).trans h6⟩
     rw[List.map_append,HW.out.2,ptIts_snoc,hz]
     rfl
    have hh:w.heap.size+1<V.heap.size:=by have:=hFV.lt;omega
    have hP0:V.drew.cell? ⟨w.heap.size,0,none⟩=some (.slice Ah nh ch)∧V.drew.cell? ⟨w.heap.size+1,0,none⟩=some (.int .i64 (z:Int))∧V.heap.size≤V.drew.heap.size:=⟨hFV.hed.cell,hFV.num.cell,Nat.le_refl _⟩
    have hbd:Below V.heap.size V V.drew:=(Below.refl _ _).drew
    obtain⟨i0,hi0,hy0,hy1,hy2⟩:=info_parts info_u8
    obtain⟨i1,hi1,hx0,hz1,hz2⟩:=info_parts info_it
    have hsW:=HB.out.2.size
    have HZ:=Lib.hid hz
    clear hz hch hFV HB hlt hz0
    gi_upto_region 10 with fail
    gi_cut [9] from 15 (fun s9 wx=>s9= .slice A7 (8*j) c7∧∃A' c' d',PtsF w wx A' (pre.length+1) c' d' Ah nh ch (z:Int) ad n cap∧d'.map (·.1)=ptIts hd r s (pre++[x])∧KeepsOthers W wx)
    case first=>
     refine wpIn_region_round (S:=fun V'=>V'.cell? ⟨w.heap.size,0,none⟩=some (.slice Ah nh ch)∧V'.cell? ⟨w.heap.size+1,0,none⟩=some (.int .i64 (z:Int))∧V.heap.size≤V'.heap.size) (by kernel_rfl) (by kernel_rfl) ?_ (fun hHeld=>?_)
     ·exact hP0
     refine tk 1 ?_
     refine tk 3 ?_
     refine tk 4 ?_
     refine tk 7 ?_
     refine rd3 0 2 5 (fun K hK=>?_) (fun K hK=>?_) fun K hK=>?_
     ·have LW:=HO.out _ hbd
      go_simp
      refine hK.out _ _ ?_ (fun hHeld=>?_)
      ·first|exact hHeld|exact hP0
      clear LW
      clear hK K
      try simp only[Act.put,sb0,sc0,sc1]
      refine rd2 2 5 (fun K hK=>?_) fun K hK=>?_
      ·go_simp
       go_at_call 42
       (with_reducible refine(clone8_any hd Ah nh ch _ (HF.out.2.1 _ hbd) HN.out.2.2).mono ?_)
       rintro e w2 ⟨Ak,ck,rfl,hk2,hb2⟩
       try dsimp only
       refine hK.out _ _ (hldP hh hP0 hb2) fun hHeld=>?_
       clear hK K
       try simp only[Act.put,sb0,sc0,sc1]
       have hB2:=hbd.trans hb2
       refine rd1 5 fun K hK=>?_
       go_simp
       refine hK.out _ _ (hldP hh hHeld ((Below.refl _ _).alloc (Nat.le_refl _) _)) fun hHeld=>?_
       clear hK K
       try simp only[Act.put,sb0,sc0,sc1]
       have hB5:=hB2.alloc hB2.size (.cells #[.int .u8 (z:Int)] 5)
       have hk5:=own_below (own_mono hk2 (Nat.le_refl _)) (show Below w2.heap.size w2 (w2.alloc (.cells #[.int .u8 (z:Int)] 5)) from(Below.refl _ _).alloc (Nat.le_refl _) _)
       have hy5:=Reads.made w2 #[.int .u8 (z:Int)] 5 (0,0) 1 1 (u8s [UInt8.ofNat z]) HZB.out rfl
       clear hk2
       refine rd1 6 fun K hK=>?_
       refine app1 (.tmp 27) (.tmp 30) _ V.heap.size 5 i0 _ 1 1 Tryz.underlying50 hi0 hy0 hy1 hy2 (.slice Ak hd.length ck) hd.length _ hk5 _ (some ⟨w2.heap.size,0,none⟩) 1 1 _ hy5 (u8s_one _) HN.out.1.1 HN.out.1.2 hB5.size ?_
       intro v6 w6 hown6 hg6 hat6
       obtain⟨A6,c6,rfl⟩:=own_form hown6
       rw[←u8s_append]at hown6
       have hB6:=hB5.grown hg6 hB5.size (fun j e=>(hk5.lt j e).1)
       have hs6:=hg6.size
       clear hg6 hat6 hk5 hy5
       try dsimp only
       refine hK.out _ _ (hldPb hh ⟨hP0.1,hP0.2.1⟩ hB6) fun hHeld=>?_
       clear hK K
       try simp only[Act.put,sb0]
       refine tk 8 ?_
       refine rd1 9 fun K hK=>?_
       go_simp
       refine hK.out _ _ (hldP hh hHeld ((Below.refl _ _).alloc (Nat.le_refl _) _)) fun hHeld=>?_
       clear hK K
       try simp only[Act.put,sb0,sc0,sc1]
       have hB9:=hB6.alloc hB6.size (.cells #[.slice A6 (hd.length+1) c6,.slice A7 (8*j) c7] 52)
       have hI9:=HX.out.1.below hB9
       have hk9:=own_below hown6 (show Below w6.heap.size w6 (w6.alloc (.cells #[.slice A6 (hd.length+1) c6,.slice A7 (8*j) c7] 52)) from(Below.refl _ _).alloc (Nat.le_refl _) _)
       have hv9:=own_below HX.out.2 hB9
       have HAP:=Lib.hid (And.intro hI9.1 (Reads.made w6 #[.slice A6 (hd.length+1) c6,.slice A7 (8*j) c7] 52 (0,0) 2 1 (itsV [(⟨hd++[UInt8.ofNat z],chunkB r x⟩,(A6,hd.length+1,c6),(A7,8*j,c7))]) rfl rfl))
       refine rd1 10 fun K hK=>?_
       refine app1 (.tmp 25) (.tmp 34) _ w.heap.size 52 i1 _ 2 48 Tryz.underlying43 hi1 hx0 hz1 hz2 (.slice A8 pre.length c8) pre.length _ HAP.out.1 _ (some ⟨_,0,none⟩) 1 1 _ HAP.out.2 (itsV_one _) HN.out.2.1.1 HN.out.2.1.2 (Nat.le_trans HF.out.1 hB9.size) ?_
       intro v10 w10 hown10 hg10 hat10
       obtain⟨A10,c10,rfl⟩:=own_form hown10
       obtain⟨z1,z2,hs10,hZ10⟩:=HE.out hB9 hk9 hv9 hown10 hg10
       have HZ10:=Lib.hid hZ10
       clear hown10 hg10 hat10 hk9 hv9 hI9 HAP hZ10
       try dsimp only
       refine hK.out _ _ (hs10 _ _ hHeld) fun hHeld=>?_
       clear hK K hs10
       try simp only[Act.put,sb0]
       refine rd1 11 fun K hK=>?_
       go_simp
       refine hK.out _ _ (hldPc (by simp) (by simp) hHeld) fun hHeld=>?_
       clear hK K
       try simp only[Act.put,sb0,sc0,sc1]
       refine wpAnyH_done (by kernel_rfl) ?_ _
       refine OnlyN.normal ?_
       gi_wp2_with fail
       gi_meet
       exact⟨rfl,HZ10.out⟩
      ·go_simp
       refine hK.out _ _ (hldP hh hP0 (show Below V.drew.heap.size V.drew (World.drew _) from(Below.refl V.drew.heap.size V.drew).alloc (Nat.le_refl _) _)) fun hHeld=>?_
       clear hK K
       try simp only[Act.put,sb0,sc0,sc1]
       have hB4:Below V.heap.size V (World.drew (V.alloc (.cells #[.int .u8 (z:Int)] 5))):=((Below.refl _ _).alloc (Nat.le_refl _) _).drew
       have hyb:Reads (World.drew (V.alloc (.cells #[.int .u8 (z:Int)] 5))) (World.drew (V.alloc (.cells #[.int .u8 (z:Int)] 5))).heap.size 1 (some ⟨V.heap.size,0,none⟩) 1 (u8s [UInt8.ofNat z]):=(Reads.made V #[.int .u8 (z:Int)] 5 (0,0) 1 1 (u8s [UInt8.ofNat z]) HZB.out rfl).drew
       refine rd1 2 fun K hK=>?_
       go_simp
       go_at_call 42
       (with_reducible refine(clone8_any hd Ah nh ch _ (HF.out.2.1 _ hB4) HN.out.2.2).mono ?_)
       rintro e w2 ⟨Ak,ck,rfl,hk2,hb2⟩
       try dsimp only
       refine hK.out _ _ (hldP hh hHeld hb2) fun hHeld=>?_
       clear hK K
       try simp only[Act.put,sb0,sc0,sc1]
       have hB5:=below_on hB4 (Nat.le_refl _) hb2
       have hk5:=own_mono hk2 hB4.size
       have hy5:=hyb.on hb2
       clear hk2 hyb
       refine rd1 6 fun K hK=>?_
       refine app1 (.tmp 27) (.tmp 30) _ V.heap.size 5 i0 _ 1 1 Tryz.underlying50 hi0 hy0 hy1 hy2 (.slice Ak hd.length ck) hd.length _ hk5 _ (some ⟨V.heap.size,0,none⟩) 1 1 _ hy5 (u8s_one _) HN.out.1.1 HN.out.1.2 hB5.size ?_
       intro v6 w6 hown6 hg6 hat6
       obtain⟨A6,c6,rfl⟩:=own_form hown6
       rw[←u8s_append]at hown6
       have hB6:=hB5.grown hg6 hB5.size (fun j e=>(hk5.lt j e).1)
       have hs6:=hg6.size
       clear hg6 hat6 hk5 hy5
       try dsimp only
       refine hK.out _ _ (hldPb hh ⟨hP0.1,hP0.2.1⟩ hB6) fun hHeld=>?_
       clear hK K
       try simp only[Act.put,sb0]
       refine tk 8 ?_
       refine rd1 9 fun K hK=>?_
       go_simp
       refine hK.out _ _ (hldP hh hHeld ((Below.refl _ _).alloc (Nat.le_refl _) _)) fun hHeld=>?_
       clear hK K
       try simp only[Act.put,sb0,sc0,sc1]
       have hB9:=hB6.alloc hB6.size (.cells #[.slice A6 (hd.length+1) c6,.slice A7 (8*j) c7] 52)
       have hI9:=HX.out.1.below hB9
       have hk9:=own_below hown6 (show Below w6.heap.size w6 (w6.alloc (.cells #[.slice A6 (hd.length+1) c6,.slice A7 (8*j) c7] 52)) from(Below.refl _ _).alloc (Nat.le_refl _) _)
       have hv9:=own_below HX.out.2 hB9
       have HAP:=Lib.hid (And.intro hI9.1 (Reads.made w6 #[.slice A6 (hd.length+1) c6,.slice A7 (8*j) c7] 52 (0,0) 2 1 (itsV [(⟨hd++[UInt8.ofNat z],chunkB r x⟩,(A6,hd.length+1,c6),(A7,8*j,c7))]) rfl rfl))
       refine rd1 10 fun K hK=>?_
       refine app1 (.tmp 25) (.tmp 34) _ w.heap.size 52 i1 _ 2 48 Tryz.underlying43 hi1 hx0 hz1 hz2 (.slice A8 pre.length c8) pre.length _ HAP.out.1 _ (some ⟨_,0,none⟩) 1 1 _ HAP.out.2 (itsV_one _) HN.out.2.1.1 HN.out.2.1.2 (Nat.le_trans HF.out.1 hB9.size) ?_
       intro v10 w10 hown10 hg10 hat10
       obtain⟨A10,c10,rfl⟩:=own_form hown10
       obtain⟨z1,z2,hs10,hZ10⟩:=HE.out hB9 hk9 hv9 hown10 hg10
       have HZ10:=Lib.hid hZ10
       clear hown10 hg10 hat10 hk9 hv9 hI9 HAP hZ10
       try dsimp only
       refine hK.out _ _ (hs10 _ _ hHeld) fun hHeld=>?_
       clear hK K hs10
       try simp only[Act.put,sb0]
       refine rd1 11 fun K hK=>?_
       go_simp
       refine hK.out _ _ (hldPc (by simp) (by simp) hHeld) fun hHeld=>?_
       clear hK K
       try simp only[Act.put,sb0,sc0,sc1]
       refine wpAnyH_done (by kernel_rfl) ?_ _
       refine OnlyN.normal ?_
       gi_wp2_with fail
       gi_meet
       exact⟨rfl,HZ10.out⟩
     ·go_simp
      go_at_call 42
      (with_reducible refine(clone8_any hd Ah nh ch _ (HF.out.2.1 _ hbd) HN.out.2.2).mono ?_)
      rintro e w2 ⟨Ak,ck,rfl,hk2,hb2⟩
      try dsimp only
      refine hK.out _ _ (hldP hh hP0 hb2) fun hHeld=>?_
      clear hK K
      try simp only[Act.put,sb0,sc0,sc1]
      have hB2:=hbd.trans hb2
      refine rd2 0 5 (fun K hK=>?_) fun K hK=>?_
      ·have LW:=HO.out _ hB2
       go_simp
       refine hK.out _ _ ?_ (fun hHeld=>?_)
       ·first|exact hHeld|exact hP0
       clear LW
       clear hK K
       try simp only[Act.put,sb0,sc0,sc1]
       refine rd1 5 fun K hK=>?_
       go_simp
       refine hK.out _ _ (hldP hh hHeld ((Below.refl _ _).alloc (Nat.le_refl _) _)) fun hHeld=>?_
       clear hK K
       try simp only[Act.put,sb0,sc0,sc1]
       have hB5:=hB2.alloc hB2.size (.cells #[.int .u8 (z:Int)] 5)
       have hk5:=own_below (own_mono hk2 (Nat.le_refl _)) (show Below w2.heap.size w2 (w2.alloc (.cells #[.int .u8 (z:Int)] 5)) from(Below.refl _ _).alloc (Nat.le_refl _) _)
       have hy5:=Reads.made w2 #[.int .u8 (z:Int)] 5 (0,0) 1 1 (u8s [UInt8.ofNat z]) HZB.out rfl
       clear hk2
       refine rd1 6 fun K hK=>?_
       refine app1 (.tmp 27) (.tmp 30) _ V.heap.size 5 i0 _ 1 1 Tryz.underlying50 hi0 hy0 hy1 hy2 (.slice Ak hd.length ck) hd.length _ hk5 _ (some ⟨w2.heap.size,0,none⟩) 1 1 _ hy5 (u8s_one _) HN.out.1.1 HN.out.1.2 hB5.size ?_
       intro v6 w6 hown6 hg6 hat6
       obtain⟨A6,c6,rfl⟩:=own_form hown6
       rw[←u8s_append]at hown6
       have hB6:=hB5.grown hg6 hB5.size (fun j e=>(hk5.lt j e).1)
       have hs6:=hg6.size
       clear hg6 hat6 hk5 hy5
       try dsimp only
       refine hK.out _ _ (hldPb hh ⟨hP0.1,hP0.2.1⟩ hB6) fun hHeld=>?_
       clear hK K
       try simp only[Act.put,sb0]
       refine tk 8 ?_
       refine rd1 9 fun K hK=>?_
       go_simp
       refine hK.out _ _ (hldP hh hHeld ((Below.refl _ _).alloc (Nat.le_refl _) _)) fun hHeld=>?_
       clear hK K
       try simp only[Act.put,sb0,sc0,sc1]
       have hB9:=hB6.alloc hB6.size (.cells #[.slice A6 (hd.length+1) c6,.slice A7 (8*j) c7] 52)
       have hI9:=HX.out.1.below hB9
       have hk9:=own_below hown6 (show Below w6.heap.size w6 (w6.alloc (.cells #[.slice A6 (hd.length+1) c6,.slice A7 (8*j) c7] 52)) from(Below.refl _ _).alloc (Nat.le_refl _) _)
       have hv9:=own_below HX.out.2 hB9
       have HAP:=Lib.hid (And.intro hI9.1 (Reads.made w6 #[.slice A6 (hd.length+1) c6,.slice A7 (8*j) c7] 52 (0,0) 2 1 (itsV [(⟨hd++[UInt8.ofNat z],chunkB r x⟩,(A6,hd.length+1,c6),(A7,8*j,c7))]) rfl rfl))
       refine rd1 10 fun K hK=>?_
       refine app1 (.tmp 25) (.tmp 34) _ w.heap.size 52 i1 _ 2 48 Tryz.underlying43 hi1 hx0 hz1 hz2 (.slice A8 pre.length c8) pre.length _ HAP.out.1 _ (some ⟨_,0,none⟩) 1 1 _ HAP.out.2 (itsV_one _) HN.out.2.1.1 HN.out.2.1.2 (Nat.le_trans HF.out.1 hB9.size) ?_
       intro v10 w10 hown10 hg10 hat10
       obtain⟨A10,c10,rfl⟩:=own_form hown10
       obtain⟨z1,z2,hs10,hZ10⟩:=HE.out hB9 hk9 hv9 hown10 hg10
       have HZ10:=Lib.hid hZ10
       clear hown10 hg10 hat10 hk9 hv9 hI9 HAP hZ10
       try dsimp only
       refine hK.out _ _ (hs10 _ _ hHeld) fun hHeld=>?_
       clear hK K hs10
       try simp only[Act.put,sb0]
       refine rd1 11 fun K hK=>?_
       go_simp
       refine hK.out _ _ (hldPc (by simp) (by simp) hHeld) fun hHeld=>?_
       clear hK K
       try simp only[Act.put,sb0,sc0,sc1]
       refine wpAnyH_done (by kernel_rfl) ?_ _
       refine OnlyN.normal ?_
       gi_wp2_with fail
       gi_meet
       exact⟨rfl,HZ10.out⟩
      ·go_simp
       refine hK.out _ _ (hldP hh hHeld ((Below.refl _ _).alloc (Nat.le_refl _) _)) fun hHeld=>?_
       clear hK K
       try simp only[Act.put,sb0,sc0,sc1]
       have hB5:=hB2.alloc hB2.size (.cells #[.int .u8 (z:Int)] 5)
       have hk5:=own_below (own_mono hk2 (Nat.le_refl _)) (show Below w2.heap.size w2 (w2.alloc (.cells #[.int .u8 (z:Int)] 5)) from(Below.refl _ _).alloc (Nat.le_refl _) _)
       have hy5:=Reads.made w2 #[.int .u8 (z:Int)] 5 (0,0) 1 1 (u8s [UInt8.ofNat z]) HZB.out rfl
       clear hk2
       refine rd2 0 6 (fun K hK=>?_) fun K hK=>?_
       ·have LW:=HO.out _ hB5
        go_simp
        refine hK.out _ _ ?_ (fun hHeld=>?_)
        ·first|exact hHeld|exact hP0
        clear LW
        clear hK K
        try simp only[Act.put,sb0,sc0,sc1]
        refine rd1 6 fun K hK=>?_
        refine app1 (.tmp 27) (.tmp 30) _ V.heap.size 5 i0 _ 1 1 Tryz.underlying50 hi0 hy0 hy1 hy2 (.slice Ak hd.length ck) hd.length _ hk5 _ (some ⟨w2.heap.size,0,none⟩) 1 1 _ hy5 (u8s_one _) HN.out.1.1 HN.out.1.2 hB5.size ?_
        intro v6 w6 hown6 hg6 hat6
        obtain⟨A6,c6,rfl⟩:=own_form hown6
        rw[←u8s_append]at hown6
        have hB6:=hB5.grown hg6 hB5.size (fun j e=>(hk5.lt j e).1)
        have hs6:=hg6.size
        clear hg6 hat6 hk5 hy5
        try dsimp only
        refine hK.out _ _ (hldPb hh ⟨hP0.1,hP0.2.1⟩ hB6) fun hHeld=>?_
        clear hK K
        try simp only[Act.put,sb0]
        refine tk 8 ?_
        refine rd1 9 fun K hK=>?_
        go_simp
        refine hK.out _ _ (hldP hh hHeld ((Below.refl _ _).alloc (Nat.le_refl _) _)) fun hHeld=>?_
        clear hK K
        try simp only[Act.put,sb0,sc0,sc1]
        have hB9:=hB6.alloc hB6.size (.cells #[.slice A6 (hd.length+1) c6,.slice A7 (8*j) c7] 52)
        have hI9:=HX.out.1.below hB9
        have hk9:=own_below hown6 (show Below w6.heap.size w6 (w6.alloc (.cells #[.slice A6 (hd.length+1) c6,.slice A7 (8*j) c7] 52)) from(Below.refl _ _).alloc (Nat.le_refl _) _)
        have hv9:=own_below HX.out.2 hB9
        have HAP:=Lib.hid (And.intro hI9.1 (Reads.made w6 #[.slice A6 (hd.length+1) c6,.slice A7 (8*j) c7] 52 (0,0) 2 1 (itsV [(⟨hd++[UInt8.ofNat z],chunkB r x⟩,(A6,hd.length+1,c6),(A7,8*j,c7))]) rfl rfl))
        refine rd1 10 fun K hK=>?_
        refine app1 (.tmp 25) (.tmp 34) _ w.heap.size 52 i1 _ 2 48 Tryz.underlying43 hi1 hx0 hz1 hz2 (.slice A8 pre.length c8) pre.length _ HAP.out.1 _ (some ⟨_,0,none⟩) 1 1 _ HAP.out.2 (itsV_one _) HN.out.2.1.1 HN.out.2.1.2 (Nat.le_trans HF.out.1 hB9.size) ?_
        intro v10 w10 hown10 hg10 hat10
        obtain⟨A10,c10,rfl⟩:=own_form hown10
        obtain⟨z1,z2,hs10,hZ10⟩:=HE.out hB9 hk9 hv9 hown10 hg10
        have HZ10:=Lib.hid hZ10
        clear hown10 hg10 hat10 hk9 hv9 hI9 HAP hZ10
        try dsimp only
        refine hK.out _ _ (hs10 _ _ hHeld) fun hHeld=>?_
        clear hK K hs10
        try simp only[Act.put,sb0]
        refine rd1 11 fun K hK=>?_
        go_simp
        refine hK.out _ _ (hldPc (by simp) (by simp) hHeld) fun hHeld=>?_
        clear hK K
        try simp only[Act.put,sb0,sc0,sc1]
        refine wpAnyH_done (by kernel_rfl) ?_ _
        refine OnlyN.normal ?_
        gi_wp2_with fail
        gi_meet
        exact⟨rfl,HZ10.out⟩
       ·refine app1 (.tmp 27) (.tmp 30) _ V.heap.size 5 i0 _ 1 1 Tryz.underlying50 hi0 hy0 hy1 hy2 (.slice Ak hd.length ck) hd.length _ hk5 _ (some ⟨w2.heap.size,0,none⟩) 1 1 _ hy5 (u8s_one _) HN.out.1.1 HN.out.1.2 hB5.size ?_
        intro v6 w6 hown6 hg6 hat6
        obtain⟨A6,c6,rfl⟩:=own_form hown6
        rw[←u8s_append]at hown6
        have hB6:=hB5.grown hg6 hB5.size (fun j e=>(hk5.lt j e).1)
        have hs6:=hg6.size
        clear hg6 hat6 hk5 hy5
        try dsimp only
        refine hK.out _ _ (hldPb hh ⟨hP0.1,hP0.2.1⟩ hB6) fun hHeld=>?_
        clear hK K
        try simp only[Act.put,sb0]
        refine tk 8 ?_
        refine rd2 0 9 (fun K hK=>?_) fun K hK=>?_
        ·have LW:=HO.out _ hB6
         go_simp
         refine hK.out _ _ ?_ (fun hHeld=>?_)
         ·first|exact hHeld|exact hP0
         clear LW
         clear hK K
         try simp only[Act.put,sb0,sc0,sc1]
         refine rd1 9 fun K hK=>?_
         go_simp
         refine hK.out _ _ (hldP hh hHeld ((Below.refl _ _).alloc (Nat.le_refl _) _)) fun hHeld=>?_
         clear hK K
         try simp only[Act.put,sb0,sc0,sc1]
         have hB9:=hB6.alloc hB6.size (.cells #[.slice A6 (hd.length+1) c6,.slice A7 (8*j) c7] 52)
         have hI9:=HX.out.1.below hB9
         have hk9:=own_below hown6 (show Below w6.heap.size w6 (w6.alloc (.cells #[.slice A6 (hd.length+1) c6,.slice A7 (8*j) c7] 52)) from(Below.refl _ _).alloc (Nat.le_refl _) _)
         have hv9:=own_below HX.out.2 hB9
         have HAP:=Lib.hid (And.intro hI9.1 (Reads.made w6 #[.slice A6 (hd.length+1) c6,.slice A7 (8*j) c7] 52 (0,0) 2 1 (itsV [(⟨hd++[UInt8.ofNat z],chunkB r x⟩,(A6,hd.length+1,c6),(A7,8*j,c7))]) rfl rfl))
         refine rd1 10 fun K hK=>?_
         refine app1 (.tmp 25) (.tmp 34) _ w.heap.size 52 i1 _ 2 48 Tryz.underlying43 hi1 hx0 hz1 hz2 (.slice A8 pre.length c8) pre.length _ HAP.out.1 _ (some ⟨_,0,none⟩) 1 1 _ HAP.out.2 (itsV_one _) HN.out.2.1.1 HN.out.2.1.2 (Nat.le_trans HF.out.1 hB9.size) ?_
         intro v10 w10 hown10 hg10 hat10
         obtain⟨A10,c10,rfl⟩:=own_form hown10
         obtain⟨z1,z2,hs10,hZ10⟩:=HE.out hB9 hk9 hv9 hown10 hg10
         have HZ10:=Lib.hid hZ10
         clear hown10 hg10 hat10 hk9 hv9 hI9 HAP hZ10
         try dsimp only
         refine hK.out _ _ (hs10 _ _ hHeld) fun hHeld=>?_
         clear hK K hs10
         try simp only[Act.put,sb0]
         refine rd1 11 fun K hK=>?_
         go_simp
         refine hK.out _ _ (hldPc (by simp) (by simp) hHeld) fun hHeld=>?_
         clear hK K
         try simp only[Act.put,sb0,sc0,sc1]
         refine wpAnyH_done (by kernel_rfl) ?_ _
         refine OnlyN.normal ?_
         gi_wp2_with fail
         gi_meet
         exact⟨rfl,HZ10.out⟩
        ·go_simp
         refine hK.out _ _ (hldP hh hHeld ((Below.refl _ _).alloc (Nat.le_refl _) _)) fun hHeld=>?_
         clear hK K
         try simp only[Act.put,sb0,sc0,sc1]
         have hB9:=hB6.alloc hB6.size (.cells #[.slice A6 (hd.length+1) c6,.slice A7 (8*j) c7] 52)
         have hI9:=HX.out.1.below hB9
         have hk9:=own_below hown6 (show Below w6.heap.size w6 (w6.alloc (.cells #[.slice A6 (hd.length+1) c6,.slice A7 (8*j) c7] 52)) from(Below.refl _ _).alloc (Nat.le_refl _) _)
         have hv9:=own_below HX.out.2 hB9
         have HAP:=Lib.hid (And.intro hI9.1 (Reads.made w6 #[.slice A6 (hd.length+1) c6,.slice A7 (8*j) c7] 52 (0,0) 2 1 (itsV [(⟨hd++[UInt8.ofNat z],chunkB r x⟩,(A6,hd.length+1,c6),(A7,8*j,c7))]) rfl rfl))
         refine rd1 0 fun K hK=>?_
         have LW:=HO.out _ hB9
         go_simp
         refine hK.out _ _ ?_ (fun hHeld=>?_)
         ·first|exact hHeld|exact hP0
         clear LW
         clear hK K
         try simp only[Act.put,sb0,sc0,sc1]
         refine rd1 10 fun K hK=>?_
         refine app1 (.tmp 25) (.tmp 34) _ w.heap.size 52 i1 _ 2 48 Tryz.underlying43 hi1 hx0 hz1 hz2 (.slice A8 pre.length c8) pre.length _ HAP.out.1 _ (some ⟨_,0,none⟩) 1 1 _ HAP.out.2 (itsV_one _) HN.out.2.1.1 HN.out.2.1.2 (Nat.le_trans HF.out.1 hB9.size) ?_
         intro v10 w10 hown10 hg10 hat10
         obtain⟨A10,c10,rfl⟩:=own_form hown10
         obtain⟨z1,z2,hs10,hZ10⟩:=HE.out hB9 hk9 hv9 hown10 hg10
         have HZ10:=Lib.hid hZ10
         clear hown10 hg10 hat10 hk9 hv9 hI9 HAP hZ10
         try dsimp only
         refine hK.out _ _ (hs10 _ _ hHeld) fun hHeld=>?_
         clear hK K hs10
         try simp only[Act.put,sb0]
         refine rd1 11 fun K hK=>?_
         go_simp
         refine hK.out _ _ (hldPc (by simp) (by simp) hHeld) fun hHeld=>?_
         clear hK K
         try simp only[Act.put,sb0,sc0,sc1]
         refine wpAnyH_done (by kernel_rfl) ?_ _
         refine OnlyN.normal ?_
         gi_wp2_with fail
         gi_meet
         exact⟨rfl,HZ10.out⟩
     ·go_simp
      refine hK.out _ _ (hldP hh hP0 (show Below V.drew.heap.size V.drew (World.drew _) from(Below.refl V.drew.heap.size V.drew).alloc (Nat.le_refl _) _)) fun hHeld=>?_
      clear hK K
      try simp only[Act.put,sb0,sc0,sc1]
      have hB4:Below V.heap.size V (World.drew (V.alloc (.cells #[.int .u8 (z:Int)] 5))):=((Below.refl _ _).alloc (Nat.le_refl _) _).drew
      have hyb:Reads (World.drew (V.alloc (.cells #[.int .u8 (z:Int)] 5))) (World.drew (V.alloc (.cells #[.int .u8 (z:Int)] 5))).heap.size 1 (some ⟨V.heap.size,0,none⟩) 1 (u8s [UInt8.ofNat z]):=(Reads.made V #[.int .u8 (z:Int)] 5 (0,0) 1 1 (u8s [UInt8.ofNat z]) HZB.out rfl).drew
      refine rd2 0 2 (fun K hK=>?_) fun K hK=>?_
      ·have LW:=HO.out _ hB4
       go_simp
       refine hK.out _ _ ?_ (fun hHeld=>?_)
       ·first|exact hHeld|exact hP0
       clear LW
       clear hK K
       try simp only[Act.put,sb0,sc0,sc1]
       refine rd1 2 fun K hK=>?_
       go_simp
       go_at_call 42
       (with_reducible refine(clone8_any hd Ah nh ch _ (HF.out.2.1 _ hB4) HN.out.2.2).mono ?_)
       rintro e w2 ⟨Ak,ck,rfl,hk2,hb2⟩
       try dsimp only
       refine hK.out _ _ (hldP hh hHeld hb2) fun hHeld=>?_
       clear hK K
       try simp only[Act.put,sb0,sc0,sc1]
       have hB5:=below_on hB4 (Nat.le_refl _) hb2
       have hk5:=own_mono hk2 hB4.size
       have hy5:=hyb.on hb2
       clear hk2 hyb
       refine rd1 6 fun K hK=>?_
       refine app1 (.tmp 27) (.tmp 30) _ V.heap.size 5 i0 _ 1 1 Tryz.underlying50 hi0 hy0 hy1 hy2 (.slice Ak hd.length ck) hd.length _ hk5 _ (some ⟨V.heap.size,0,none⟩) 1 1 _ hy5 (u8s_one _) HN.out.1.1 HN.out.1.2 hB5.size ?_
       intro v6 w6 hown6 hg6 hat6
       obtain⟨A6,c6,rfl⟩:=own_form hown6
       rw[←u8s_append]at hown6
       have hB6:=hB5.grown hg6 hB5.size (fun j e=>(hk5.lt j e).1)
       have hs6:=hg6.size
       clear hg6 hat6 hk5 hy5
       try dsimp only
       refine hK.out _ _ (hldPb hh ⟨hP0.1,hP0.2.1⟩ hB6) fun hHeld=>?_
       clear hK K
       try simp only[Act.put,sb0]
       refine tk 8 ?_
       refine rd1 9 fun K hK=>?_
       go_simp
       refine hK.out _ _ (hldP hh hHeld ((Below.refl _ _).alloc (Nat.le_refl _) _)) fun hHeld=>?_
       clear hK K
       try simp only[Act.put,sb0,sc0,sc1]
       have hB9:=hB6.alloc hB6.size (.cells #[.slice A6 (hd.length+1) c6,.slice A7 (8*j) c7] 52)
       have hI9:=HX.out.1.below hB9
       have hk9:=own_below hown6 (show Below w6.heap.size w6 (w6.alloc (.cells #[.slice A6 (hd.length+1) c6,.slice A7 (8*j) c7] 52)) from(Below.refl _ _).alloc (Nat.le_refl _) _)
       have hv9:=own_below HX.out.2 hB9
       have HAP:=Lib.hid (And.intro hI9.1 (Reads.made w6 #[.slice A6 (hd.length+1) c6,.slice A7 (8*j) c7] 52 (0,0) 2 1 (itsV [(⟨hd++[UInt8.ofNat z],chunkB r x⟩,(A6,hd.length+1,c6),(A7,8*j,c7))]) rfl rfl))
       refine rd1 10 fun K hK=>?_
       refine app1 (.tmp 25) (.tmp 34) _ w.heap.size 52 i1 _ 2 48 Tryz.underlying43 hi1 hx0 hz1 hz2 (.slice A8 pre.length c8) pre.length _ HAP.out.1 _ (some ⟨_,0,none⟩) 1 1 _ HAP.out.2 (itsV_one _) HN.out.2.1.1 HN.out.2.1.2 (Nat.le_trans HF.out.1 hB9.size) ?_
       intro v10 w10 hown10 hg10 hat10
       obtain⟨A10,c10,rfl⟩:=own_form hown10
       obtain⟨z1,z2,hs10,hZ10⟩:=HE.out hB9 hk9 hv9 hown10 hg10
       have HZ10:=Lib.hid hZ10
       clear hown10 hg10 hat10 hk9 hv9 hI9 HAP hZ10
       try dsimp only
       refine hK.out _ _ (hs10 _ _ hHeld) fun hHeld=>?_
       clear hK K hs10
       try simp only[Act.put,sb0]
       refine rd1 11 fun K hK=>?_
       go_simp
       refine hK.out _ _ (hldPc (by simp) (by simp) hHeld) fun hHeld=>?_
       clear hK K
       try simp only[Act.put,sb0,sc0,sc1]
       refine wpAnyH_done (by kernel_rfl) ?_ _
       refine OnlyN.normal ?_
       gi_wp2_with fail
       gi_meet
       exact⟨rfl,HZ10.out⟩
      ·go_simp
       go_at_call 42
       (with_reducible refine(clone8_any hd Ah nh ch _ (HF.out.2.1 _ hB4) HN.out.2.2).mono ?_)
       rintro e w2 ⟨Ak,ck,rfl,hk2,hb2⟩
       try dsimp only
       refine hK.out _ _ (hldP hh hHeld hb2) fun hHeld=>?_
       clear hK K
       try simp only[Act.put,sb0,sc0,sc1]
       have hB5:=below_on hB4 (Nat.le_refl _) hb2
       have hk5:=own_mono hk2 hB4.size
       have hy5:=hyb.on hb2
       clear hk2 hyb
       refine rd2 0 6 (fun K hK=>?_) fun K hK=>?_
       ·have LW:=HO.out _ hB5
        go_simp
        refine hK.out _ _ ?_ (fun hHeld=>?_)
        ·first|exact hHeld|exact hP0
        clear LW
        clear hK K
        try simp only[Act.put,sb0,sc0,sc1]
        refine rd1 6 fun K hK=>?_
        refine app1 (.tmp 27) (.tmp 30) _ V.heap.size 5 i0 _ 1 1 Tryz.underlying50 hi0 hy0 hy1 hy2 (.slice Ak hd.length ck) hd.length _ hk5 _ (some ⟨V.heap.size,0,none⟩) 1 1 _ hy5 (u8s_one _) HN.out.1.1 HN.out.1.2 hB5.size ?_
        intro v6 w6 hown6 hg6 hat6
        obtain⟨A6,c6,rfl⟩:=own_form hown6
        rw[←u8s_append]at hown6
        have hB6:=hB5.grown hg6 hB5.size (fun j e=>(hk5.lt j e).1)
        have hs6:=hg6.size
        clear hg6 hat6 hk5 hy5
        try dsimp only
        refine hK.out _ _ (hldPb hh ⟨hP0.1,hP0.2.1⟩ hB6) fun hHeld=>?_
        clear hK K
        try simp only[Act.put,sb0]
        refine tk 8 ?_
        refine rd1 9 fun K hK=>?_
        go_simp
        refine hK.out _ _ (hldP hh hHeld ((Below.refl _ _).alloc (Nat.le_refl _) _)) fun hHeld=>?_
        clear hK K
        try simp only[Act.put,sb0,sc0,sc1]
        have hB9:=hB6.alloc hB6.size (.cells #[.slice A6 (hd.length+1) c6,.slice A7 (8*j) c7] 52)
        have hI9:=HX.out.1.below hB9
        have hk9:=own_below hown6 (show Below w6.heap.size w6 (w6.alloc (.cells #[.slice A6 (hd.length+1) c6,.slice A7 (8*j) c7] 52)) from(Below.refl _ _).alloc (Nat.le_refl _) _)
        have hv9:=own_below HX.out.2 hB9
        have HAP:=Lib.hid (And.intro hI9.1 (Reads.made w6 #[.slice A6 (hd.length+1) c6,.slice A7 (8*j) c7] 52 (0,0) 2 1 (itsV [(⟨hd++[UInt8.ofNat z],chunkB r x⟩,(A6,hd.length+1,c6),(A7,8*j,c7))]) rfl rfl))
        refine rd1 10 fun K hK=>?_
        refine app1 (.tmp 25) (.tmp 34) _ w.heap.size 52 i1 _ 2 48 Tryz.underlying43 hi1 hx0 hz1 hz2 (.slice A8 pre.length c8) pre.length _ HAP.out.1 _ (some ⟨_,0,none⟩) 1 1 _ HAP.out.2 (itsV_one _) HN.out.2.1.1 HN.out.2.1.2 (Nat.le_trans HF.out.1 hB9.size) ?_
        intro v10 w10 hown10 hg10 hat10
        obtain⟨A10,c10,rfl⟩:=own_form hown10
        obtain⟨z1,z2,hs10,hZ10⟩:=HE.out hB9 hk9 hv9 hown10 hg10
        have HZ10:=Lib.hid hZ10
        clear hown10 hg10 hat10 hk9 hv9 hI9 HAP hZ10
        try dsimp only
        refine hK.out _ _ (hs10 _ _ hHeld) fun hHeld=>?_
        clear hK K hs10
        try simp only[Act.put,sb0]
        refine rd1 11 fun K hK=>?_
        go_simp
        refine hK.out _ _ (hldPc (by simp) (by simp) hHeld) fun hHeld=>?_
        clear hK K
        try simp only[Act.put,sb0,sc0,sc1]
        refine wpAnyH_done (by kernel_rfl) ?_ _
        refine OnlyN.normal ?_
        gi_wp2_with fail
        gi_meet
        exact⟨rfl,HZ10.out⟩
       ·refine app1 (.tmp 27) (.tmp 30) _ V.heap.size 5 i0 _ 1 1 Tryz.underlying50 hi0 hy0 hy1 hy2 (.slice Ak hd.length ck) hd.length _ hk5 _ (some ⟨V.heap.size,0,none⟩) 1 1 _ hy5 (u8s_one _) HN.out.1.1 HN.out.1.2 hB5.size ?_
        intro v6 w6 hown6 hg6 hat6
        obtain⟨A6,c6,rfl⟩:=own_form hown6
        rw[←u8s_append]at hown6
        have hB6:=hB5.grown hg6 hB5.size (fun j e=>(hk5.lt j e).1)
        have hs6:=hg6.size
        clear hg6 hat6 hk5 hy5
        try dsimp only
        refine hK.out _ _ (hldPb hh ⟨hP0.1,hP0.2.1⟩ hB6) fun hHeld=>?_
        clear hK K
        try simp only[Act.put,sb0]
        refine tk 8 ?_
        refine rd2 0 9 (fun K hK=>?_) fun K hK=>?_
        ·have LW:=HO.out _ hB6
         go_simp
         refine hK.out _ _ ?_ (fun hHeld=>?_)
         ·first|exact hHeld|exact hP0
         clear LW
         clear hK K
         try simp only[Act.put,sb0,sc0,sc1]
         refine rd1 9 fun K hK=>?_
         go_simp
         refine hK.out _ _ (hldP hh hHeld ((Below.refl _ _).alloc (Nat.le_refl _) _)) fun hHeld=>?_
         clear hK K
         try simp only[Act.put,sb0,sc0,sc1]
         have hB9:=hB6.alloc hB6.size (.cells #[.slice A6 (hd.length+1) c6,.slice A7 (8*j) c7] 52)
         have hI9:=HX.out.1.below hB9
         have hk9:=own_below hown6 (show Below w6.heap.size w6 (w6.alloc (.cells #[.slice A6 (hd.length+1) c6,.slice A7 (8*j) c7] 52)) from(Below.refl _ _).alloc (Nat.le_refl _) _)
         have hv9:=own_below HX.out.2 hB9
         have HAP:=Lib.hid (And.intro hI9.1 (Reads.made w6 #[.slice A6 (hd.length+1) c6,.slice A7 (8*j) c7] 52 (0,0) 2 1 (itsV [(⟨hd++[UInt8.ofNat z],chunkB r x⟩,(A6,hd.length+1,c6),(A7,8*j,c7))]) rfl rfl))
         refine rd1 10 fun K hK=>?_
         refine app1 (.tmp 25) (.tmp 34) _ w.heap.size 52 i1 _ 2 48 Tryz.underlying43 hi1 hx0 hz1 hz2 (.slice A8 pre.length c8) pre.length _ HAP.out.1 _ (some ⟨_,0,none⟩) 1 1 _ HAP.out.2 (itsV_one _) HN.out.2.1.1 HN.out.2.1.2 (Nat.le_trans HF.out.1 hB9.size) ?_
         intro v10 w10 hown10 hg10 hat10
         obtain⟨A10,c10,rfl⟩:=own_form hown10
         obtain⟨z1,z2,hs10,hZ10⟩:=HE.out hB9 hk9 hv9 hown10 hg10
         have HZ10:=Lib.hid hZ10
         clear hown10 hg10 hat10 hk9 hv9 hI9 HAP hZ10
         try dsimp only
         refine hK.out _ _ (hs10 _ _ hHeld) fun hHeld=>?_
         clear hK K hs10
         try simp only[Act.put,sb0]
         refine rd1 11 fun K hK=>?_
         go_simp
         refine hK.out _ _ (hldPc (by simp) (by simp) hHeld) fun hHeld=>?_
         clear hK K
         try simp only[Act.put,sb0,sc0,sc1]
         refine wpAnyH_done (by kernel_rfl) ?_ _
         refine OnlyN.normal ?_
         gi_wp2_with fail
         gi_meet
         exact⟨rfl,HZ10.out⟩
        ·go_simp
         refine hK.out _ _ (hldP hh hHeld ((Below.refl _ _).alloc (Nat.le_refl _) _)) fun hHeld=>?_
         clear hK K
         try simp only[Act.put,sb0,sc0,sc1]
         have hB9:=hB6.alloc hB6.size (.cells #[.slice A6 (hd.length+1) c6,.slice A7 (8*j) c7] 52)
         have hI9:=HX.out.1.below hB9
         have hk9:=own_below hown6 (show Below w6.heap.size w6 (w6.alloc (.cells #[.slice A6 (hd.length+1) c6,.slice A7 (8*j) c7] 52)) from(Below.refl _ _).alloc (Nat.le_refl _) _)
         have hv9:=own_below HX.out.2 hB9
         have HAP:=Lib.hid (And.intro hI9.1 (Reads.made w6 #[.slice A6 (hd.length+1) c6,.slice A7 (8*j) c7] 52 (0,0) 2 1 (itsV [(⟨hd++[UInt8.ofNat z],chunkB r x⟩,(A6,hd.length+1,c6),(A7,8*j,c7))]) rfl rfl))
         refine rd1 0 fun K hK=>?_
         have LW:=HO.out _ hB9
         go_simp
         refine hK.out _ _ ?_ (fun hHeld=>?_)
         ·first|exact hHeld|exact hP0
         clear LW
         clear hK K
         try simp only[Act.put,sb0,sc0,sc1]
         refine rd1 10 fun K hK=>?_
         refine app1 (.tmp 25) (.tmp 34) _ w.heap.size 52 i1 _ 2 48 Tryz.underlying43 hi1 hx0 hz1 hz2 (.slice A8 pre.length c8) pre.length _ HAP.out.1 _ (some ⟨_,0,none⟩) 1 1 _ HAP.out.2 (itsV_one _) HN.out.2.1.1 HN.out.2.1.2 (Nat.le_trans HF.out.1 hB9.size) ?_
         intro v10 w10 hown10 hg10 hat10
         obtain⟨A10,c10,rfl⟩:=own_form hown10
         obtain⟨z1,z2,hs10,hZ10⟩:=HE.out hB9 hk9 hv9 hown10 hg10
         have HZ10:=Lib.hid hZ10
         clear hown10 hg10 hat10 hk9 hv9 hI9 HAP hZ10
         try dsimp only
         refine hK.out _ _ (hs10 _ _ hHeld) fun hHeld=>?_
         clear hK K hs10
         try simp only[Act.put,sb0]
         refine rd1 11 fun K hK=>?_
         go_simp
         refine hK.out _ _ (hldPc (by simp) (by simp) hHeld) fun hHeld=>?_
         clear hK K
         try simp only[Act.put,sb0,sc0,sc1]
         refine wpAnyH_done (by kernel_rfl) ?_ _
         refine OnlyN.normal ?_
         gi_wp2_with fail
         gi_meet
         exact⟨rfl,HZ10.out⟩
    case rest=>
     obtain⟨rfl,A9,c9,d9,hF9,hd9,hk9⟩:=hcut
     obtain⟨T,rfl⟩:∃X,X=wc:=⟨_,rfl⟩
     have q1:=hF9.num.cell
     have q2:=hF9.num.frozen
     have hw1:IntKind.i64.wrap ((z:Int)+1)=((z+1:Nat):Int):=by rw[IntKind.wrap_i64];omega
     have H9:=Lib.hid (And.intro hF9 (And.intro hd9 hk9))
     clear hF9 hd9 hk9 hbd hh hP0 HO HF HN HX HE
     gi_wp2_with fail
     have hb:=H9.out.1.num
     have hF10:PtsF w (T.setCell ⟨w.heap.size+1,0,none⟩ (.int .i64 ((z+1:Nat):Int))) A9 (pre.length+1) c9 d9 Ah nh ch ((z+1:Nat):Int) ad n cap:=
      ⟨H9.out.1.out.other (by omega) _,H9.out.1.own.store hb (by decide) (by decide) 0 _,H9.out.1.hed.other (by omega) _,hb.set _,H9.out.1.rng.other (by omega) _,H9.out.1.siz.other (by omega) _,H9.out.1.bel.setCell (p:=⟨w.heap.size+1,0,none⟩) (by simp) _⟩
     have hk10:=H9.out.2.2.trans (KeepsOthers.setCell T ⟨w.heap.size+1,0,none⟩ (.int .i64 ((z+1:Nat):Int)))
     refine⟨hk10.from _,HW.out.1.keep hF10 hk10.size,A9,c9,d9,?_,H9.out.2.1⟩
     rw[List.length_append,List.length_singleton,show(s:Int)+((pre.length+1:Nat):Int)=((z+1:Nat):Int) by have:=HZ.out;omega]
     exact hF10
 case done=>
  rintro D ys W hD rfl ⟨A9,c9,d9,hF9,hd9⟩ hK
  rw[List.length_range]at hF9
  have hd10:d9.map (·.1)=ringIts hd r s:=by rw[hd9,←HL.out.1,ptIts_range]
  have q1:=hF9.out.cell
  have H9:=Lib.hid (And.intro hF9.own (And.intro hF9.bel hd10))
  clear hF9 hd9 hd10
  gi_wp2_with fail
  have hW:Below w.heap.size W (W.putObj D (.deferred none)):=belowK_b (w:=w) (Nat.le_refl _) W D _ _ (by omega) hK rfl rfl
  refine⟨by simp,.inl ⟨_,_,rfl,run_takeDeferred hK,?_⟩⟩
  refine⟨.slice A9 (chkN n) c9,by simp[results,Tryz.results48,go_sem],⟨A9,c9,d9,rfl,H9.out.1.turn (row:=some D) (grownBy_putObj' W D _) (fun r e=>by cases e;exact⟨_,hK,rfl⟩),H9.out.2.2,H9.out.2.1.trans hW⟩⟩
 case stop=>
  rintro D c pre W _ _ h _
  exact h.elim
end Go.Proofs.YtpkeacnacjnlcaaGreat
namespace Go.Proofs.YtpkeacnacjnlcaaGreat
/-- Is it an item that is read? -/
def opB (x:It):Bool:=decide (x.k.length=2∧x.k.getD 0 0=111)||decide (x.k.length=6∧x.k.getD 0 0=112)
theorem opStep_id {x:It} (h:opB x=false) (p:Plan):opStep p x=p:=by
 unfold opB at h
 simp only[Bool.or_eq_false_iff,decide_eq_false_iff_not]at h
 unfold opStep
 rw[if_neg h.1,if_neg h.2]
theorem read_filter:∀(l:List It) (p:Plan),l.foldl opStep p=(l.filter opB).foldl opStep p
 |[],_=>rfl
 |x::l,p=>by
  rw[List.foldl_cons]
  rcases e:opB x with _|_
  ·rw[opStep_id e,List.filter_cons_of_neg (by simp[e])]
   exact read_filter l p
  ·rw[List.filter_cons_of_pos e,List.foldl_cons]
   exact read_filter l _
theorem ofNat_lt {a b:Nat} (h:a<b) (hb:b<256):UInt8.ofNat a<UInt8.ofNat b:=by
 rw[UInt8.lt_iff_toNat_lt,UInt8.toNat_ofNat',UInt8.toNat_ofNat']
 omega
theorem ringIts_rise (head:List UInt8) {r:List Pt} {s:Nat} (h:r.length≤128) (hs:s≤1):Rising ((ringIts head r s).map (·.k)):=by
 rw[ringIts_keys]
 unfold Rising
 rw[List.pairwise_map]
 have hc:=chkN_le (n:=r.length) (m:=8) (by omega)
 refine List.Pairwise.imp_of_mem (fun {i j} _ hj hij=>?_) List.pairwise_lt_range
 have:=List.mem_range.1 hj
 exact ltK_left (ltK_head (ofNat_lt (by omega) (by omega)))
theorem parOP_rise {x:Parc} (h:x.ring.length≤128):Rising ((parOP x).map (·.k)):=by
 unfold parOP
 rw[List.map_cons]
 refine List.pairwise_cons.2 ⟨fun k hk=>?_,ringIts_rise _ h (Nat.le_refl 1)⟩
 rw[ringIts_keys]at hk
 obtain⟨j,hj,rfl⟩:=List.mem_map.1 hk
 have hj:=List.mem_range.1 hj
 have hc:=chkN_le (n:=x.ring.length) (m:=8) (by omega)
 exact ltK_left (ltK_head (ofNat_lt (a:=0) (by omega) (by omega)))
theorem parOP_head {x:Parc} {k:List UInt8} (h:k∈(parOP x).map (·.k)):∃c,k=pcHead x.id++[c]:=by
 unfold parOP at h
 rw[List.map_cons,ringIts_keys]at h
 rcases List.mem_cons.1 h with rfl|h
 ·exact⟨_,rfl⟩
 ·obtain⟨j,-,rfl⟩:=List.mem_map.1 h
  exact⟨_,rfl⟩
theorem pcHead_len (id:Int):(pcHead id).length=5:=by unfold pcHead;rw[List.length_cons,idBy_len]
theorem planOP_rise {p:Plan} (h:RecOK p):Rising ((planOP p).map (·.k)):=by
 unfold planOP
 rw[List.map_append]
 refine List.pairwise_append.2 ⟨ringIts_rise _ h.out.2 (Nat.zero_le 1),?_,fun a ha b hb=>?_⟩
 ·rw[List.map_flatMap,List.pairwise_flatMap]
  refine⟨fun x hx=>parOP_rise (h.pcs x hx).2.2,?_⟩
  refine List.Pairwise.imp_of_mem (fun {x y} hx hy hxy=>?_) h.ids
  intro a ha b hb
  obtain⟨c,rfl⟩:=parOP_head ha
  obtain⟨d,rfl⟩:=parOP_head hb
  refine ltK_append (by rw[pcHead_len,pcHead_len]) (ltK_cons.2 ?_)
  have h1:=(h.pcs x hx).1
  have h2:=(h.pcs y hy).1
  unfold idB at h1 h2
  simp only[decide_eq_true_eq]at h1 h2
  exact ltK_beB (by omega) (by omega)
 ·rw[ringIts_keys]at ha
  obtain⟨j,-,rfl⟩:=List.mem_map.1 ha
  rw[List.map_flatMap]at hb
  obtain⟨x,-,hb⟩:=List.mem_flatMap.1 hb
  obtain⟨d,rfl⟩:=parOP_head hb
  exact ltK_head (by decide)
theorem ringIts_op2 (r:List Pt):(ringIts [111] r 0).filter opB=ringIts [111] r 0:=by
 rw[List.filter_eq_self]
 intro x hx
 obtain⟨k,-,rfl⟩:=List.mem_map.1 hx
 rfl
theorem op_of_head {x:It} {id:Int} {c:UInt8} (h:x.k=pcHead id++[c]):opB x=true:=by
 unfold opB
 obtain⟨h1,h2,-⟩:=head_six id c
 rw[h,h1,h2]
 rfl
theorem parIts_op (x:Parc):(parIts x).filter opB=parOP x:=by
 rw[parIts_eq,List.filter_append,List.filter_append]
 have h1:(parOP x).filter opB=parOP x:=by
  rw[List.filter_eq_self]
  intro i hi
  obtain⟨c,e⟩:=parOP_head (List.mem_map.2 ⟨i,hi,rfl⟩)
  exact op_of_head e
 have h2:((edgesOf x.ring).map (fun e=>(⟨edgKy e,idBy x.id⟩:It))).filter opB=[]:=by
  rw[List.filter_eq_nil_iff]
  intro i hi
  obtain⟨e,-,rfl⟩:=List.mem_map.1 hi
  simp[opB,edgKy]
 have h3:((cellsL x.ring).map (fun c=>(⟨clKey x.id c,[]⟩:It))).filter opB=[]:=by
  rw[List.filter_eq_nil_iff]
  intro i hi
  obtain⟨e,-,rfl⟩:=List.mem_map.1 hi
  simp[opB,clKey]
 rw[h1,h2,h3]
 simp
theorem flat_filter {α β:Type} (f:α→List β) (b:β→Bool):∀l:List α,(l.flatMap f).filter b=l.flatMap fun x=>(f x).filter b
 |[]=>rfl
 |x::l=>by rw[List.flatMap_cons,List.flatMap_cons,List.filter_append,flat_filter f b l]
theorem planIts_op (p:Plan):(planIts p).filter opB=planOP p:=by
 unfold planIts planOP
 rw[List.filter_append,ringIts_op2,flat_filter]
 congr 1
 congr 1
 funext x
 exact parIts_op x
theorem rise_filter {l:List It} (h:Rising (l.map (·.k))) (b:It→Bool):Rising ((l.filter b).map (·.k)):=
 List.Pairwise.sublist (List.Sublist.map _ (List.filter_sublist ..)) h
theorem RecOK.read {p:Plan} (h:RecOK p):readP (planOP p)=p:=read_op h.out.1 h.pcs h.ids
/-- A plan's items, by rising keys, are read as it. -/
theorem read_sorted {p:Plan} {d:List It} (h:RecOK p) (hd:d.Perm (planIts p)) (hr:Rising (d.map (·.k))):readP d=p:=by
 have e:d.filter opB=planOP p:=by
  refine items_uniq (rise_filter hr _) (planOP_rise h) fun x=>?_
  rw[←planIts_op]
  exact(hd.filter opB).mem_iff
 unfold readP
 rw[read_filter,e]
 exact h.read
end Go.Proofs.YtpkeacnacjnlcaaGreat
