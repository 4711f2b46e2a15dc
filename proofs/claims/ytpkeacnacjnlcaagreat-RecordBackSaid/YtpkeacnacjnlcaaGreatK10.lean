/- A region that draws its order, inside a round of a range over a function: the elder walk with a held condition serves there too. -/
import Derived.Deep.RegionHeld3
import Derived.OrdersIn
import Derived.RangeFuncCalls
import Derived.Sort.CutIn
import Derived.TacticsIn
import Derived.Test.YtpkeacnacjnlcaaGreatK02
import Derived.Test.YtpkeacnacjnlcaaGreatK04
import Derived.Test.YtpkeacnacjnlcaaGreatK08
namespace Go.Proofs.YtpkeacnacjnlcaaGreat
theorem Oper.wpIn_of_wp {P:Program} {n l:Nat} {o:Oper} {a:Act} {w:World} {K:Act→World→Prop} {Q:Exit→Act→World→Prop} (hd:∀c,o.op≠ .defer c) (h:o.wp P a w K Q):o.wpIn (Fence.wide.inRound l) n P a w K Q:=by
 unfold Oper.wp at h
 unfold Oper.wpIn
 refine⟨fun _ _=>trivial,?_⟩
 rw[show o.semAt (Fence.wide.inRound l).round a.eval=execOp a.eval o from Go.Oper.semAt_some l _ _ hd]
 generalize (execOp a.eval o).run P w=r at *
 cases r with
 |ok x w'=>
  cases x
  case enter f args=>exact⟨fun hc=>(by cases hc),CallsIn.inRound l (callsIn_wide.2 h)⟩
  case row r args=>exact⟨fun hc=>(by cases hc),fun c cs _=>let ⟨v,w',r,s⟩:=h c cs;⟨v,w',r,stepsIn_wide.2 s⟩⟩
  all_goals first|exact h|exact(h:False).elim
 |halt x w'=>cases x<;>exact h
theorem wpOpsIn_of_wpOps {P:Program} {n l:Nat} {ops:Array Oper} {Q:Exit→Act→World→Prop} (hQ:¬LetsOut Q) (hd:∀(i:Nat) (o:Oper),ops[i]?=some o→∀c,o.op≠ .defer c):
 ∀(is:List Nat) (a:Act) (w:World),wpOps P ops Q is a w→wpOpsIn (Fence.wide.inRound l) n P ops Q is a w:=by
 intro is
 induction is with
 |nil=>intro a w h;exact h
 |cons i rest ih=>
  intro a w h
  unfold wpOps at h
  unfold wpOpsIn
  split
  ·rename_i he
   rw[he]at h
   exact ih a w h
  ·rename_i o he
   rw[he]at h
   simp only at h
   split
   ·rename_i hw
    rw[if_pos hw]at h
    exact Oper.wpIn_of_wp (hd i o he) (Oper.wp_mono (fun a w=>ih a w) (h.resolve_right fun hx=>hQ hx.2))
   ·rename_i hw
    rw[if_neg hw]at h
    exact⟨fun _ _=>trivial,ih _ _ h⟩
def noDefer (ops:Array Oper):Bool:=ops.toList.all fun o=>match o.op with| .defer _=>false|_=>true
/-- Q at an ordinary end, and nothing else. -/
def OnlyN (Q:Exit→Act→World→Prop):Exit→Act→World→Prop
 | .normal,a,w=>Q .normal a w
 |_,_,_=>False
theorem OnlyN.imp {Q:Exit→Act→World→Prop}:∀(e:Exit) (a:Act) (w:World),OnlyN Q e a w→Q e a w:=fun e a w h=>by
 cases e<;>first|exact h|exact(h:False).elim
theorem OnlyN.normal {Q:Exit→Act→World→Prop} {a:Act} {w:World} (h:Q .normal a w):OnlyN Q .normal a w:=h
theorem wpIn_region_round {P:Program} {n l id:Nat} {ops:Array Oper} {Q:Exit→Act→World→Prop} {S:World→Prop} {a:Act} {w:World} (hm:P.follows .mixedOrders=true) (hd:noDefer ops=true) (hS:S w.drew)
 (h:S w.drew→wpAnyH P .any ops (OnlyN Q) S ops.size (Array.replicate ops.size false) a w.drew):(Code.region id ops true).wpIn (Fence.wide.inRound l) n P Q a w:=by
 refine wpIn_mono (Q':=Q) (Q:=OnlyN Q) (wpIn_region_draw fun t=>?_) OnlyN.imp
 refine wpOpsIn_of_wpOps (fun ⟨_,_,hl⟩=>hl) (fun i o ho c hc=>?_) _ _ _ ?_
 ·have:=List.all_eq_true.1 hd o (Array.mem_toList_iff.2 (Array.mem_of_getElem? ho))
  rw[hc]at this
  cases this
 ·simp only[Region.schedule,hm,Bool.true_or,if_true]
  exact wpAny_sound ops.size t _ a _ (wpAny_of_held _ _ _ _ (h hS))
end Go.Proofs.YtpkeacnacjnlcaaGreat
namespace Go.Proofs.YtpkeacnacjnlcaaGreat
open Go.RowKit Go.Shelf
attribute [local go_sem] Go.Oper.semAt_some
def pairM (xs:List Pt) (i j:Nat):Bool:=decide (meetOf xs i j=if nextB xs.length i j=true then 1 else 0)
def SimpleP (xs:List Pt):Prop:=∀i j,i<j→j<xs.length→pairM xs i j=true
open Classical in
noncomputable def simpleB (xs:List Pt):Bool:=decide (SimpleP xs)
open Classical in
theorem simpleB_true {xs:List Pt} (h:SimpleP xs):simpleB xs=true:=by unfold simpleB;exact decide_eq_true h
open Classical in
theorem simpleB_false {xs:List Pt} (h:¬SimpleP xs):simpleB xs=false:=by unfold simpleB;exact decide_eq_false h
theorem holdM {W V V':World} {Bx h n:Nat} {sl:Value} {p q:Pt} {a b:Addr} {rx ry tx ty:Int} (hB:Bx<W.heap.size∧h+1+1<W.heap.size∧a.block<W.heap.size∧b.block<W.heap.size)
 (hh:V.cell? ⟨Bx,0,none⟩=some (.int .i64 p.x)∧V.cell? ⟨Bx,1,none⟩=some (.int .i64 p.y)∧V.cell? ⟨Bx,2,none⟩=some (.int .i64 q.x)∧V.cell? ⟨Bx,3,none⟩=some (.int .i64 q.y)∧V.cell? ⟨h,0,none⟩=some sl∧V.cell? ⟨h+1+1,0,none⟩=some (.int .i64 (n:Int))∧
   V.cell? a=some (.int .i64 rx)∧V.cell? ⟨a.block,a.off+1,none⟩=some (.int .i64 ry)∧V.cell? b=some (.int .i64 tx)∧V.cell? ⟨b.block,b.off+1,none⟩=some (.int .i64 ty)∧Below W.heap.size W V) (hb:Below V.heap.size V V'):
 V'.cell? ⟨Bx,0,none⟩=some (.int .i64 p.x)∧V'.cell? ⟨Bx,1,none⟩=some (.int .i64 p.y)∧V'.cell? ⟨Bx,2,none⟩=some (.int .i64 q.x)∧V'.cell? ⟨Bx,3,none⟩=some (.int .i64 q.y)∧V'.cell? ⟨h,0,none⟩=some sl∧V'.cell? ⟨h+1+1,0,none⟩=some (.int .i64 (n:Int))∧
  V'.cell? a=some (.int .i64 rx)∧V'.cell? ⟨a.block,a.off+1,none⟩=some (.int .i64 ry)∧V'.cell? b=some (.int .i64 tx)∧V'.cell? ⟨b.block,b.off+1,none⟩=some (.int .i64 ty)∧Below W.heap.size W V':=by
 obtain⟨h1,h2,h3,h4,h5,h6,h7,h8,h9,h10,h11⟩:=hh
 have:=h11.size
 exact⟨(hb.cell (by simp only;omega)).trans h1,(hb.cell (by simp only;omega)).trans h2,(hb.cell (by simp only;omega)).trans h3,(hb.cell (by simp only;omega)).trans h4,(hb.cell (by simp only;omega)).trans h5,(hb.cell (by simp only;omega)).trans h6,(hb.cell (by omega)).trans h7,(hb.cell (by simp only;omega)).trans h8,(hb.cell (by omega)).trans h9,(hb.cell (by simp only;omega)).trans h10,below_on h11 (Nat.le_refl _) hb⟩
set_option maxRecDepth 100000 in
set_option maxHeartbeats 3200000 in
theorem simple_any (xs:List Pt) (A:Option Addr) (n cap:Nat) (w:World) (hr:Reads w w.heap.size 2 A n (ptsV xs)) (hn:n≤128) (hg:goodL xs=true):
 Calls Tryz.prog 179 #[.slice A n cap] w fun e w'=>e= .returned (.bool (simpleB xs))∧Below w.heap.size w w':=by
 have HG:=Lib.hid hg
 clear hg
 have HL:=Lib.hid (hr.lenPt)
 refine(callsIn_wide (n:=3)).1 ?_
 refine callsIn_of_wp_marks Tryz.func179 rfl trivial ?_ rfl
 simp only[Tryz.ntmps179,List.size_toArray,List.length_cons,List.length_nil,Nat.reduceAdd,Nat.reduceSub,Array.replicate_succ,Array.replicate_zero,List.push_toArray,List.append_toArray,List.nil_append,List.cons_append]
 gi_wp2_with fail
 refine⟨trivial,?_⟩
 refine(callsIn_wide.2 (edges_any A n cap _)).mono ?_
 rintro e w3 ⟨rfl,rfl⟩
 gi_wp2_with fail
 have bP:=(((Boxed.new w 25 (.slice A n cap)).alloc (.cells #[.bool false] 4)).alloc (.cells #[.int .i64 (n:Int)] 3)).alloc (.cells #[.slice A n cap] 25)
 have bR:=((Boxed.new (w.alloc (.cells #[.slice A n cap] 25)) 4 (.bool false)).alloc (.cells #[.int .i64 (n:Int)] 3)).alloc (.cells #[.slice A n cap] 25)
 have bI:=(Boxed.new ((w.alloc (.cells #[.slice A n cap] 25)).alloc (.cells #[.bool false] 4)) 3 (.int .i64 (n:Int))).alloc (.cells #[.slice A n cap] 25)
 have bE:=Boxed.new (((w.alloc (.cells #[.slice A n cap] 25)).alloc (.cells #[.bool false] 4)).alloc (.cells #[.int .i64 (n:Int)] 3)) 25 (.slice A n cap)
 simp only[World.size_alloc]at bR bI bE
 have hB0:=((((Below.refl w.heap.size w).alloc (Nat.le_refl _) (.cells #[.slice A n cap] 25)).alloc (by simp) (.cells #[.bool false] 4)).alloc (by simp;omega) (.cells #[.int .i64 (n:Int)] 3)).alloc (by simp;omega) (.cells #[.slice A n cap] 25)
 have hr0:=hr.below hB0
 have hz0:((((w.alloc (.cells #[.slice A n cap] 25)).alloc (.cells #[.bool false] 4)).alloc (.cells #[.int .i64 (n:Int)] 3)).alloc (.cells #[.slice A n cap] 25)).heap.size=w.heap.size+4:=by simp
 generalize (((w.alloc (.cells #[.slice A n cap] 25)).alloc (.cells #[.bool false] 4)).alloc (.cells #[.int .i64 (n:Int)] 3)).alloc (.cells #[.slice A n cap] 25)=w0 at *
 refine wpIn_rangeFunc_ownH rfl (by omega) (gf:=153) (lb:=#[.pointer (some ⟨w.heap.size+1+1+1,0,none⟩)]) rfl trivial (enters_of Tryz.func153 (by kernel_rfl) rfl)
  (edges_stopsR 2 (by omega) w.heap.size (w.heap.size+1+1+1) cap n A xs (by omega) w0 (by omega) (by omega) bE.cell hr0) (fun h k=>h.trans k)
  (fun W l o o' hl h _ _=>⟨by simp,fun i hi=>World.putObj_heap_other (by omega)⟩) (Below.refl _ _) (fun _=>rfl)
  (fun pre W=>(Boxed W w.heap.size 25 (.slice A n cap)∧Boxed W (w.heap.size+1) 4 (.bool false)∧Boxed W (w.heap.size+1+1) 3 (.int .i64 (n:Int))∧Boxed W (w.heap.size+1+1+1) 25 (.slice A n cap)∧∀y∈pre,∀j,y.1<j→j<n→pairM xs y.1 j=true)∧Below w.heap.size w W)
  (fun c pre W=>(c= .ret∧¬SimpleP xs∧Boxed W (w.heap.size+1) 4 (.bool false))∧Below w.heap.size w W)
  (OwnFrom.and (Own.from (fun s X Y row hs hg hrow=>⟨boxed_own _ _ (fun _:Unit=>_) () X Y row hs.1 hg hrow,boxed_own _ _ (fun _:Unit=>_) () X Y row hs.2.1 hg hrow,boxed_own _ _ (fun _:Unit=>_) () X Y row hs.2.2.1 hg hrow,boxed_own _ _ (fun _:Unit=>_) () X Y row hs.2.2.2.1 hg hrow,hs.2.2.2.2⟩) _) (ownFrom_below (Nat.le_refl _) (by omega)))
  (fun c=>OwnFrom.and (Own.from (fun s X Y row hs hg hrow=>⟨hs.1,hs.2.1,boxed_own _ _ (fun _:Unit=>_) () X Y row hs.2.2 hg hrow⟩) _) (ownFrom_below (Nat.le_refl _) (by omega)))
  ⟨⟨bP,bR,bI,bE,by simp⟩,hB0⟩
  (fun x a' W=>∃Bx,Blk W Bx 76 #[.int .i64 (ptAt xs x.1).x,.int .i64 (ptAt xs x.1).y,.int .i64 (ptAt xs ((x.1+1)%xs.length)).x,.int .i64 (ptAt xs ((x.1+1)%xs.length)).y]∧
    a'={ tmps:=#[.slice A n cap,.pointer (some ⟨w.heap.size,0,none⟩),.pointer (some ⟨w.heap.size+1,0,none⟩),.pointer (some ⟨w.heap.size+1+1,0,none⟩),.int .i64 (x.1:Int),.pointer (some ⟨Bx,0,none⟩),undef,undef,undef,undef,.slice A n cap,.int .i64 (n:Int),.slice A n cap,.func (.func 153) #[] #[.pointer (some ⟨w.heap.size+1+1+1,0,none⟩)],.int .i64 (x.1:Int),edgeV (ptAt xs x.1) (ptAt xs ((x.1+1)%xs.length)),undef,undef,undef,undef,undef,undef,undef,undef,undef,undef,undef,undef,undef,undef,undef,undef,undef,undef,undef,undef,undef,undef,undef,undef,undef,undef,undef,undef,undef,undef,undef,undef,undef,undef,undef,undef,undef,undef,undef,undef,undef,undef,undef],defers:=[] })
  (fun x a'=>fun s X Y row ⟨Bx,hs,e⟩ hg hrow=>⟨Bx,blk_own Bx _ (fun _:Unit=>_) () X Y row hs hg (fun r hr=>(hrow r hr).2),e⟩) ?assign ?body ?done ?stop
 case assign=>
  rintro l pre x W K ⟨⟨bP',bR',bI',bE',hne⟩,hB'⟩ hK
  unfold edgeAt edgeV
  gi_wp2
  have hsz:=hB'.size
  have hlt:=bE'.lt
  refine hK _ _ ((KeepsOthers.alloc _ _).from _) (KeepE.alloc (by omega) hlt _) ⟨⟨bP'.alloc _,bR'.alloc _,bI'.alloc _,bE'.alloc _,hne⟩,hB'.alloc hB'.size _⟩ ⟨W.heap.size,Blk.new W _ _,rfl⟩
 case body=>
  rintro l pre ⟨x,hxn⟩ a' W hl' ⟨r,hrr⟩ ⟨⟨bP',bR',bI',bE',hne⟩,hB'⟩ ⟨Bx,hBx,rfl⟩ hlen
  have hpm:∀j,pairM xs x j=decide (meetOf xs x j=if nextB n x j=true then 1 else 0):=fun j=>by unfold pairM;rw[HL.out]
  have hpg:=ptAt_good HG.out x
  have hqg:=ptAt_good HG.out ((x+1)%xs.length)
  obtain⟨p,hp⟩:∃p,p=ptAt xs x:=⟨_,rfl⟩
  obtain⟨q,hq⟩:∃q,q=ptAt xs ((x+1)%xs.length):=⟨_,rfl⟩
  have hmo:∀j,meetOf xs x j=meetR p q (ptAt xs j) (ptAt xs ((j+1)%n)):=fun j=>by unfold meetOf;rw[hp,hq,HL.out]
  have hpq:edgeV (ptAt xs x) (ptAt xs ((x+1)%xs.length))=edgeV p q:=by rw[hp,hq]
  rw[←hp]at hBx hpg
  rw[←hq]at hBx hqg
  dsimp only
  rw[hpq]
  have HM:=Lib.hid (And.intro hpm hmo)
  have HPQ:=Lib.hid (And.intro hpg hqg)
  have HW:=Lib.hid (And.intro bP' (And.intro bR' (And.intro bI' (And.intro bE' (And.intro hne (And.intro hB' hBx))))))
  have hszW:w.heap.size+4≤W.heap.size:=by have:=bE'.lt;omega
  have hBxl:Bx<W.heap.size:=Blk.lt hBx
  have hw0:IntKind.i64.wrap ((x:Int)+1)=(x:Int)+1:=by rw[IntKind.wrap_i64];omega
  clear hp hq hmo hpm hpq hpg hqg hBx bP' bR' bI' bE' hne hB' hrr
  unfold edgeV
  gi_wp2_with fail
  gi_loopw [6] (fun i wr=>∃j:Nat,x<j∧j≤n∧Hid (∀k,x<k→k<j→pairM xs x k=true)∧i= .int .i64 (j:Int)∧Below W.heap.size W wr) (fun i _=>n-(intOf i).toNat)
  case atStart=>exact⟨x+1,by omega,by omega,(fun k h1 h2=>absurd h2 (by omega)),by go_num,Below.refl _ _⟩
  case round=>
   obtain⟨j,hxj,hj,hall,rfl,hbel⟩:=hrel
   by_cases hltj:j<n
   ·have hsz1:w.heap.size+4≤wr.heap.size:=Nat.le_trans hszW hbel.size
    have hBl:Below w.heap.size w wr:=below_on HW.out.2.2.2.2.2.1 (Nat.le_refl _) hbel
    have hA:=(hr.below hBl)
    obtain⟨ad,rfl,hbd,-,-,-⟩:=hA.pt hltj
    obtain⟨m,hm⟩:∃m,m=(j+1)%n:=⟨_,rfl⟩
    have hl1:m<n:=by rw[hm];exact Nat.mod_lt _ (by omega)
    have ht1:((j:Int)+1).tmod (n:Int)=(m:Int):=by rw[mod_tmod,←hm]
    have hw1:IntKind.i64.wrap ((j:Int)+1)=(j:Int)+1:=by rw[IntKind.wrap_i64];omega
    have hw3:IntKind.i64.wrap ((n:Int)-1)=(n:Int)-1:=by rw[IntKind.wrap_i64];omega
    have hl1':(m:Int)<(n:Int):=by omega
    have hltj':(j:Int)<(n:Int):=by omega
    have hn0:¬(n=0):=by omega
    have hn0':¬((n:Int)=0):=by omega
    obtain⟨-,r1,r2⟩:=hA.ptA hltj
    obtain⟨-,t1,t2⟩:=hA.ptA hl1
    have hrg:=ptAt_good HG.out j
    have htg:=ptAt_good HG.out m
    have hmo:meetOf xs x j=meetR p q (ptAt xs j) (ptAt xs m):=by rw[HM.out.2 j,←hm]
    have kM:∀V,Calls Tryz.prog 181 #[.agg #[.int .i64 p.x,.int .i64 p.y],.agg #[.int .i64 q.x,.int .i64 q.y],.agg #[.int .i64 (ptAt xs j).x,.int .i64 (ptAt xs j).y],.agg #[.int .i64 (ptAt xs m).x,.int .i64 (ptAt xs m).y]] V fun e w'=>e= .returned (.tuple #[.int .i64 (meetOf xs x j),.int .i64 0])∧Below V.heap.size V w':=fun V=>by
     rw[hmo,←meet_eq HPQ.out.1 HPQ.out.2 hrg htg]
     exact meet_any p q (ptAt xs j) (ptAt xs m) V HPQ.out.1 HPQ.out.2 hrg htg
    have hpm:=HM.out.1 j
    generalize meetOf xs x j=M at *
    generalize (ptAt xs j).x=rx at *
    generalize (ptAt xs j).y=ry at *
    generalize (ptAt xs m).x=tx at *
    generalize (ptAt xs m).y=ty at *
    obtain⟨nx,hnx⟩:∃b,b=nextB n x j:=⟨_,rfl⟩
    rw[←hnx]at hpm
    have HPM:=Lib.hid hpm
    have HNX:=Lib.hid hnx
    have c1:wr.cell? ⟨w.heap.size,0,none⟩=some (.slice (some ad) n cap):=Boxed.cell (t:=25) (Blk.below HW.out.1 hbel (by have:=Blk.lt HW.out.1;omega))
    have c3:wr.cell? ⟨w.heap.size+1+1,0,none⟩=some (.int .i64 (n:Int)):=Boxed.cell (t:=3) (Blk.below HW.out.2.2.1 hbel (by have:=Blk.lt HW.out.2.2.1;omega))
    have hBx1:=Blk.below HW.out.2.2.2.2.2.2 hbel hBxl
    have HH:=Lib.hid (show wr.drew.cell? ⟨Bx,0,none⟩=some (.int .i64 p.x)∧wr.drew.cell? ⟨Bx,1,none⟩=some (.int .i64 p.y)∧wr.drew.cell? ⟨Bx,2,none⟩=some (.int .i64 q.x)∧wr.drew.cell? ⟨Bx,3,none⟩=some (.int .i64 q.y)∧wr.drew.cell? ⟨w.heap.size,0,none⟩=some (.slice (some ad) n cap)∧wr.drew.cell? ⟨w.heap.size+1+1,0,none⟩=some (.int .i64 (n:Int))∧wr.drew.cell? (ad.add (j*2))=some (.int .i64 rx)∧wr.drew.cell? ⟨(ad.add (j*2)).block,(ad.add (j*2)).off+1,none⟩=some (.int .i64 ry)∧wr.drew.cell? (ad.add (m*2))=some (.int .i64 tx)∧wr.drew.cell? ⟨(ad.add (m*2)).block,(ad.add (m*2)).off+1,none⟩=some (.int .i64 ty)∧Below wr.heap.size wr wr.drew from⟨(Blk.cell hBx1 0).trans rfl,(Blk.cell hBx1 1).trans rfl,(Blk.cell hBx1 2).trans rfl,(Blk.cell hBx1 3).trans rfl,c1,c3,r1,r2,t1,t2,(Below.refl _ _).drew⟩)
    have HC:=Lib.hid (And.intro kM (show Bx<wr.heap.size∧w.heap.size+1+1<wr.heap.size∧(ad.add (j*2)).block<wr.heap.size∧(ad.add (m*2)).block<wr.heap.size from⟨Nat.lt_of_lt_of_le hBxl hbel.size,by omega,by rw[block_of_add];omega,by rw[block_of_add];omega⟩))
    clear hm hA hbd hBl hmo kM hpm hnx r1 r2 t1 t2 hrg htg c1 hBx1
    gi_upto_region 9 with fail
    gi_cut [36] from 37 (fun s36 wx=>s36= .bool nx∧wr=wx)
    case first=>
     clear HPM HH HC
     by_cases d1:j=x+1
     ·have e1:((j:Int)==(x:Int)+1)=true:=beq_iff_eq.mpr (by omega)
      have ex:Hid (nx=true):=by show _=_;rw[HNX.out];unfold nextB;simp[d1]
      clear d1 HNX
      gi_wp2_with fail
      gi_meet
      exact⟨by rw[ex.out],rfl⟩
     ·have e1:((j:Int)==(x:Int)+1)=false:=beq_eq_false_iff_ne.mpr (by omega)
      by_cases d2:x=0
      ·have e2:((x:Int)==0)=true:=beq_iff_eq.mpr (by omega)
       by_cases d3:j=n-1
       ·have e3:((j:Int)==(n:Int)-1)=true:=beq_iff_eq.mpr (by omega)
        have ex:Hid (nx=true):=by show _=_;rw[HNX.out];unfold nextB;rw[decide_eq_false d1,decide_eq_true d2,decide_eq_true d3];rfl
        clear d1 d2 d3 HNX
        gi_wp2_with fail
        gi_meet
        exact⟨by rw[ex.out],rfl⟩
       ·have e3:((j:Int)==(n:Int)-1)=false:=beq_eq_false_iff_ne.mpr (by omega)
        have ex:Hid (nx=false):=by show _=_;rw[HNX.out];unfold nextB;rw[decide_eq_false d1,decide_eq_true d2,decide_eq_false d3];rfl
        clear d1 d2 d3 HNX
        gi_wp2_with fail
        gi_meet
        exact⟨by rw[ex.out],rfl⟩
      ·have e2:((x:Int)==0)=false:=beq_eq_false_iff_ne.mpr (by omega)
       have ex:Hid (nx=false):=by show _=_;rw[HNX.out];unfold nextB;rw[decide_eq_false d1,decide_eq_false d2];rfl
       clear d1 d2 HNX
       gi_wp2_with fail
       gi_meet
       exact⟨by rw[ex.out],rfl⟩
    case rest=>
     obtain⟨rfl,rfl⟩:=hcut
     clear HNX c3
     rcases nx with _|_
     ·have hM2:Hid (pairM xs x j=decide (M=0)):=by show _=_;rw[HPM.out];rfl
      clear HPM
      gi_upto_region 11 with fail
      refine wpIn_region_round (S:=(fun V=>V.cell? ⟨Bx,0,none⟩=some (.int .i64 p.x)∧V.cell? ⟨Bx,1,none⟩=some (.int .i64 p.y)∧V.cell? ⟨Bx,2,none⟩=some (.int .i64 q.x)∧V.cell? ⟨Bx,3,none⟩=some (.int .i64 q.y)∧V.cell? ⟨w.heap.size,0,none⟩=some (.slice (some ad) n cap)∧V.cell? ⟨w.heap.size+1+1,0,none⟩=some (.int .i64 (n:Int))∧V.cell? (ad.add (j*2))=some (.int .i64 rx)∧V.cell? ⟨(ad.add (j*2)).block,(ad.add (j*2)).off+1,none⟩=some (.int .i64 ry)∧V.cell? (ad.add (m*2))=some (.int .i64 tx)∧V.cell? ⟨(ad.add (m*2)).block,(ad.add (m*2)).off+1,none⟩=some (.int .i64 ty)∧Below wr.heap.size wr V)) (by kernel_rfl) (by kernel_rfl) ?_ (fun hHeld=>?_)
      ·exact HH.out
      refine tk 0 ?_
      refine tk 1 ?_
      refine tk 2 ?_
      refine tk 3 ?_
      refine tk 4 ?_
      refine tk 5 ?_
      refine tk 6 ?_
      refine tk 7 ?_
      refine tk 8 ?_
      refine tk 9 ?_
      refine tk 10 ?_
      refine tk 11 ?_
      refine tk 12 ?_
      refine tk 13 ?_
      refine tk 14 ?_
      refine rd1 15 fun K hK=>?_
      go_simp
      go_at_call 181
      with_reducible refine(HC.out.1 _).mono ?_
      rintro e w' ⟨rfl,hb'⟩
      dsimp only
      refine hK.out _ _ (holdM HC.out.2 (by assumption) hb') fun hHeld=>?_
      clear hK K
      try simp only[Act.put,sb0,sc0,sc1]
      refine tk 16 ?_
      refine tk 17 ?_
      refine tk 18 ?_
      refine tk 19 ?_
      refine tk 20 ?_
      refine wpAnyH_done (by kernel_rfl) ?_ _
      refine OnlyN.normal ?_
      obtain⟨-,-,-,-,-,-,-,-,-,-,hbV⟩:=hHeld
      clear HH HC
      have hB6:=Lib.hid (below_on hbel (Nat.le_refl _) hbV)
      have bR6:Boxed w' (w.heap.size+1) 4 (.bool false):=Blk.below (Blk.below HW.out.2.1 hbel (by have:=Blk.lt HW.out.2.1;omega)) hbV (by omega)
      clear hbV
      rcases d1:(M != 0)with _|_
      ·have hall2:Hid (∀k,x<k→k<j+1→pairM xs x k=true):=fun k h1 h2=>by
        rcases Nat.lt_succ_iff_lt_or_eq.1 h2 with h3|h3
        ·exact hall.out k h1 h3
        ·subst h3;rw[hM2.out];simpa using d1
       clear hM2 hall
       gi_wp2_with fail
       go_roundw
       case rel=>exact⟨j+1,by omega,by omega,hall2,by go_num,hB6.out⟩
       case measure=>simp[intOf];omega
      ·have hno:Hid (¬SimpleP xs):=fun h=>by
        have h1:=h x j hxj (by rw[HL.out];exact hltj)
        rw[hM2.out]at h1
        have h2:M=0:=by simpa using h1
        rw[h2]at d1
        cases d1
       have i1:=bR6.cell
       have i2:=bR6.frozen
       clear hM2 hall
       gi_wp2_with fail
       exact⟨((keeps_below hB6.out).trans (KeepsOthers.setCell _ _ _)).from _,⟨rfl,hno.out,bR6.set _⟩,(below_on HW.out.2.2.2.2.2.1 (Nat.le_refl _) hB6.out).setCell (p:=⟨w.heap.size+1,0,none⟩) (by simp) _⟩
     ·have hM2:Hid (pairM xs x j=decide (M=1)):=by show _=_;rw[HPM.out];rfl
      clear HPM
      gi_upto_region 11 with fail
      refine wpIn_region_round (S:=(fun V=>V.cell? ⟨Bx,0,none⟩=some (.int .i64 p.x)∧V.cell? ⟨Bx,1,none⟩=some (.int .i64 p.y)∧V.cell? ⟨Bx,2,none⟩=some (.int .i64 q.x)∧V.cell? ⟨Bx,3,none⟩=some (.int .i64 q.y)∧V.cell? ⟨w.heap.size,0,none⟩=some (.slice (some ad) n cap)∧V.cell? ⟨w.heap.size+1+1,0,none⟩=some (.int .i64 (n:Int))∧V.cell? (ad.add (j*2))=some (.int .i64 rx)∧V.cell? ⟨(ad.add (j*2)).block,(ad.add (j*2)).off+1,none⟩=some (.int .i64 ry)∧V.cell? (ad.add (m*2))=some (.int .i64 tx)∧V.cell? ⟨(ad.add (m*2)).block,(ad.add (m*2)).off+1,none⟩=some (.int .i64 ty)∧Below wr.heap.size wr V)) (by kernel_rfl) (by kernel_rfl) ?_ (fun hHeld=>?_)
      ·exact HH.out
      refine tk 0 ?_
      refine tk 1 ?_
      refine tk 2 ?_
      refine tk 3 ?_
      refine tk 4 ?_
      refine tk 5 ?_
      refine tk 6 ?_
      refine tk 7 ?_
      refine tk 8 ?_
      refine tk 9 ?_
      refine tk 10 ?_
      refine tk 11 ?_
      refine tk 12 ?_
      refine tk 13 ?_
      refine tk 14 ?_
      refine rd1 15 fun K hK=>?_
      go_simp
      go_at_call 181
      with_reducible refine(HC.out.1 _).mono ?_
      rintro e w' ⟨rfl,hb'⟩
      dsimp only
      refine hK.out _ _ (holdM HC.out.2 (by assumption) hb') fun hHeld=>?_
      clear hK K
      try simp only[Act.put,sb0,sc0,sc1]
      refine tk 16 ?_
      refine tk 17 ?_
      refine tk 18 ?_
      refine tk 19 ?_
      refine tk 20 ?_
      refine wpAnyH_done (by kernel_rfl) ?_ _
      refine OnlyN.normal ?_
      obtain⟨-,-,-,-,-,-,-,-,-,-,hbV⟩:=hHeld
      clear HH HC
      have hB6:=Lib.hid (below_on hbel (Nat.le_refl _) hbV)
      have bR6:Boxed w' (w.heap.size+1) 4 (.bool false):=Blk.below (Blk.below HW.out.2.1 hbel (by have:=Blk.lt HW.out.2.1;omega)) hbV (by omega)
      clear hbV
      rcases d1:(M != 1)with _|_
      ·have hall2:Hid (∀k,x<k→k<j+1→pairM xs x k=true):=fun k h1 h2=>by
        rcases Nat.lt_succ_iff_lt_or_eq.1 h2 with h3|h3
        ·exact hall.out k h1 h3
        ·subst h3;rw[hM2.out];simpa using d1
       clear hM2 hall
       gi_wp2_with fail
       go_roundw
       case rel=>exact⟨j+1,by omega,by omega,hall2,by go_num,hB6.out⟩
       case measure=>simp[intOf];omega
      ·have hno:Hid (¬SimpleP xs):=fun h=>by
        have h1:=h x j hxj (by rw[HL.out];exact hltj)
        rw[hM2.out]at h1
        have h2:M=1:=by simpa using h1
        rw[h2]at d1
        cases d1
       have i1:=bR6.cell
       have i2:=bR6.frozen
       clear hM2 hall
       gi_wp2_with fail
       exact⟨((keeps_below hB6.out).trans (KeepsOthers.setCell _ _ _)).from _,⟨rfl,hno.out,bR6.set _⟩,(below_on HW.out.2.2.2.2.2.1 (Nat.le_refl _) hB6.out).setCell (p:=⟨w.heap.size+1,0,none⟩) (by simp) _⟩
   ·have hjn:j=n:=by omega
    subst hjn
    have bI2:Boxed wr (w.heap.size+1+1) 3 (.int .i64 (j:Int)):=Blk.below HW.out.2.2.1 hbel (by have:=Blk.lt HW.out.2.2.1;omega)
    have c3:=bI2.cell
    gi_wp2_with fail
    refine⟨(keeps_below hbel).from _,KeepE.below hbel (by omega) (by omega),⟨Blk.below HW.out.1 hbel (Blk.lt HW.out.1),Blk.below HW.out.2.1 hbel (Blk.lt HW.out.2.1),bI2,Blk.below HW.out.2.2.2.1 hbel (Blk.lt HW.out.2.2.2.1),fun y hy=>(List.mem_append.1 hy).elim (HW.out.2.2.2.2.1 y) (fun e=>by simp at e;subst e;exact hall.out)⟩,below_on HW.out.2.2.2.2.2.1 (Nat.le_refl _) hbel⟩
 case done=>
  rintro D ys W hD hys ⟨⟨bP',bR',bI',bE',hne⟩,hB'⟩ hK
  have hs:simpleB xs=true:=simpleB_true fun i j hij hj=>by
   have hi:i∈ys.map (·.1):=by rw[hys];exact List.mem_range.2 (by have:=HL.out;omega)
   obtain⟨y,hy,rfl⟩:=List.mem_map.1 hi
   exact hne y hy j hij (by have:=HL.out;omega)
  have HS:=Lib.hid hs
  have i2:=bR'.frozen
  have i3:=bR'.cell
  clear hs hne hys
  gi_wp2_with fail
  have hK':=(KeepsOthers.setCell W ⟨w.heap.size+1,0,none⟩ (.bool true)).same D _ hK rfl
  refine⟨by simp,.inl ⟨_,_,rfl,run_takeDeferred hK',?_⟩⟩
  have hc5:=cell_kept (bR'.set (.bool true)).cell (grownBy_putObj' _ D (.deferred none)) (fun r e=>by cases e;exact⟨_,hK',rfl⟩)
  refine⟨.bool true,?_,by rw[HS.out],(hB'.setCell (p:=⟨w.heap.size+1,0,none⟩) (by simp) _).trans (belowK_b (w:=w) (Nat.le_refl _) _ D _ _ (by omega) hK' rfl rfl)⟩
  simp[results,Tryz.results179,go_sem,hc5]
 case stop=>
  rintro D c pre W hD _ ⟨⟨rfl,hno,bR'⟩,hB'⟩ hK
  have hs:simpleB xs=false:=simpleB_false hno
  have i3:=bR'.cell
  gi_wp2
  refine⟨by simp,.inl ⟨_,_,rfl,run_takeDeferred hK,?_⟩⟩
  have hc5:=cell_kept i3 (grownBy_putObj' _ D (.deferred none)) (fun r e=>by cases e;exact⟨_,hK,rfl⟩)
  refine⟨.bool false,?_,by rw[hs],hB'.trans (belowK_b (w:=w) (Nat.le_refl _) W D _ _ (by omega) hK rfl rfl)⟩
  simp[results,Tryz.results179,go_sem,hc5]
end Go.Proofs.YtpkeacnacjnlcaaGreat
namespace Go.Proofs.YtpkeacnacjnlcaaGreat
theorem meet_end {a b c d p:Pt} (h1:p=a∨p=b) (h2:p=c∨p=d):meetR a b c d≠0:=by
 have hcd:onB c d p=true:=by
  rcases h2 with rfl|rfl
  ·exact(onB_self _ _).1
  ·exact(onB_self _ _).2
 have hne:endsL a b c d≠[]:=by
  unfold endsL
  rcases h1 with rfl|rfl
  ·rw[if_pos hcd];simp
  ·rw[if_pos hcd];simp
 have:=(meetR_pos a b c d).2 (.inl hne)
 omega
theorem nextB_false {n i j:Nat} (h1:j≠i+1) (h2:¬(i=0∧j=n-1)):nextB n i j=false:=by
 unfold nextB
 rw[decide_eq_false h1,Bool.false_or,Bool.and_eq_false_iff]
 by_cases h3:i=0
 ·exact .inr (decide_eq_false fun h=>h2 ⟨h3,h⟩)
 ·exact .inl (decide_eq_false h3)
theorem simple_apart {xs:List Pt} (h:SimpleP xs) {i j:Nat} (hij:i<j) (hj:j<xs.length) (hn:nextB xs.length i j=false):meetOf xs i j=0:=by
 have:=h i j hij hj
 unfold pairM at this
 rw[hn]at this
 simpa using this
theorem area_three {xs:List Pt} (h:xs.length=3):areaZ xs=cr ⟨0,0⟩ (ptAt xs 0) (ptAt xs 1)+(cr ⟨0,0⟩ (ptAt xs 1) (ptAt xs 2)+cr ⟨0,0⟩ (ptAt xs 2) (ptAt xs 0)):=by
 unfold areaZ
 rw[h,show List.range 3=[0,1,2] from rfl]
 simp[sumL,areaK,h]
 omega
theorem dup_no {xs:List Pt} (h3:3≤xs.length) (ha:0<areaZ xs) (hs:SimpleP xs) {i j:Nat} (hij:i<j) (hj:j<xs.length) (he:ptAt xs i=ptAt xs j):False:=by
 have hmod:∀k,k<xs.length→k%xs.length=k:=fun k hk=>Nat.mod_eq_of_lt hk
 by_cases h4:xs.length=3
 ·rw[area_three h4]at ha
  have hc:(i=0∧j=1)∨(i=0∧j=2)∨(i=1∧j=2):=by omega
  unfold cr at ha
  rcases hc with ⟨rfl,rfl⟩|⟨rfl,rfl⟩|⟨rfl,rfl⟩
  all_goals
   rw[he]at ha
   simp only at ha
   grind
 ·by_cases h1:j=i+1
  ·subst h1
   by_cases h0:i=0
   ·subst h0
    have:=simple_apart hs (i:=1) (j:=xs.length-1) (by omega) (by omega) (nextB_false (by omega) (by omega))
    unfold meetOf at this
    refine meet_end (p:=ptAt xs 1) (.inl rfl) (.inr ?_) this
    rw[show xs.length-1+1=xs.length by omega,Nat.mod_self]
    exact he.symm
   ·have:=simple_apart hs (i:=i-1) (j:=i+1) (by omega) (by omega) (nextB_false (by omega) (by omega))
    unfold meetOf at this
    refine meet_end (p:=ptAt xs i) (.inr ?_) (.inl he) this
    rw[show i-1+1=i by omega,hmod i (by omega)]
  ·by_cases h0:i=0∧j=xs.length-1
   ·obtain⟨rfl,rfl⟩:=h0
    have:=simple_apart hs (i:=0) (j:=xs.length-2) (by omega) (by omega) (nextB_false (by omega) (by omega))
    unfold meetOf at this
    refine meet_end (p:=ptAt xs 0) (.inl rfl) (.inr ?_) this
    rw[show xs.length-2+1=xs.length-1 by omega,hmod _ (by omega)]
    exact he
   ·have:=simple_apart hs hij hj (nextB_false h1 h0)
    unfold meetOf at this
    exact meet_end (p:=ptAt xs i) (.inl rfl) (.inl he) this
theorem pairs_simple {xs:List Pt} (h:PairsOK xs):SimpleP xs:=fun i j hij hj=>by
 have:=h i j hij hj
 unfold pairOK at this
 rw[Bool.and_eq_true]at this
 exact this.2
theorem pairs_nodup {xs:List Pt} (h:PairsOK xs):xs.Nodup:=by
 refine List.pairwise_iff_getElem.2 fun i j hi hj hij he=>?_
 have:=h i j hij hj
 unfold pairOK at this
 rw[Bool.and_eq_true]at this
 have h1:=of_decide_eq_true this.1
 apply h1
 rw[ptAt_lt hi,ptAt_lt hj,he]
open Classical in
theorem simpleB_of {xs:List Pt} (h:simpleB xs=true):SimpleP xs:=by
 unfold simpleB at h
 exact of_decide_eq_true h
theorem simple_pairs {xs:List Pt} (h3:3≤xs.length) (ha:0<areaZ xs) (hs:SimpleP xs):PairsOK xs:=fun i j hij hj=>by
 have:=hs i j hij hj
 unfold pairM at this
 unfold pairOK
 rw[this,Bool.and_true]
 exact decide_eq_true fun he=>dup_no h3 ha hs hij hj he
/-- What ring.Check answers is what the document says. -/
theorem check_plain {xs:List Pt} {t:Bool} (h:areaE xs=0) (ht:t=true→¬xs.Nodup):(3≤xs.length∧t=false∧0<areaZ xs∧simpleB xs=true→checkI xs=0)∧(¬(3≤xs.length∧t=false∧0<areaZ xs∧simpleB xs=true)→checkI xs=4):=by
 constructor
 ·rintro⟨h1,_,h2,h4⟩
  exact checkI_ok h h1 h2 (simple_pairs h1 h2 (simpleB_of h4))
 ·intro hn
  refine checkI_no h fun⟨h1,h2,h4⟩=>hn ⟨h1,?_,h2,simpleB_true (pairs_simple h4)⟩
  rcases t with _|_
  ·rfl
  ·exact absurd (pairs_nodup h4) (ht rfl)
end Go.Proofs.YtpkeacnacjnlcaaGreat
