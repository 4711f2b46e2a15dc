/- ring.Edges: the iterator's contract: for every loop body that keeps the ring; wide.Of, wide.Add: the walks; Plain words: the order of numbers and points, the area of three points, and on which side one is. No condition. -/
import Derived.IntWalk
import Derived.LoopIn
import Derived.LoopNIn
import Derived.Outline
import Derived.OwnWalkIn
import Derived.RangeFuncBound
import Derived.RangeFuncCalls
import Derived.RangeFuncLeaves
import Derived.RangeFuncNested
import Derived.Shelf.Abstract
import Derived.Shelf.RegionOpen
import Derived.Stop.RegionWithIn
import Derived.TacticsInMore
import Derived.Laws.Externs
import Derived.Deep.RegionHeld3
import Derived.StillTailTactics
import Derived.Test.YtpkeacnacjnlcaaGreatK01
namespace Go.Proofs.YtpkeacnacjnlcaaGreat
open Go.RowKit Go.Shelf
attribute [local go_sem] Oper.semAt_some
/-- What the iterator asks of a round that goes on: all below B is as it was, and so is the block of its own. -/
def KeepE (B Bs:Nat) (W W':World):Prop:=W.heap.size≤W'.heap.size∧∀i,i<B∨i=Bs→W'.heap[i]?=W.heap[i]?
theorem KeepE.refl (B Bs:Nat) (W:World):KeepE B Bs W W:=⟨Nat.le_refl _,fun _ _=>rfl⟩
theorem KeepE.trans {B Bs:Nat} {W W' W'':World} (h:KeepE B Bs W W') (k:KeepE B Bs W' W''):KeepE B Bs W W'':=⟨Nat.le_trans h.1 k.1,fun i hi=>(k.2 i hi).trans (h.2 i hi)⟩
theorem KeepE.cell {B Bs:Nat} {W W':World} (h:KeepE B Bs W W') {p:Addr} (hp:p.block<B∨p.block=Bs):W'.cell? p=W.cell? p:=World.cell?_of_block (h.2 p.block hp)
theorem KeepE.reads {B Bs n:Nat} {W W':World} {A:Option Addr} {xs:List Value} {sz:Nat} (h:KeepE B Bs W W') (hr:Reads W B sz A n xs):Reads W' B sz A n xs:=hr.keep fun _ hp=>h.cell (.inl hp)
theorem KeepE.alloc {B Bs:Nat} {W:World} (hB:B≤W.heap.size) (hs:Bs<W.heap.size) (o:Obj):KeepE B Bs W (W.alloc o):=⟨by simp,fun i hi=>Below.heap_alloc W o i (by omega)⟩
theorem KeepE.drew {B Bs:Nat} {W W':World} (h:KeepE B Bs W W'):KeepE B Bs W W'.drew:=h
/-- What leaves all older blocks as they were keeps these. -/
theorem KeepE.below {B Bs:Nat} {W W':World} (hb:Below W.heap.size W W') (hB:B≤W.heap.size) (hs:Bs<W.heap.size):KeepE B Bs W W':=⟨hb.size,fun i hi=>hb.block i (by omega)⟩
theorem cell_lt' {W:World} {a:Addr} {v:Value} (h:W.cell? a=some v):a.block<W.heap.size:=by
 rcases Nat.lt_or_ge a.block W.heap.size with hlt|hge
 ·exact hlt
 ·unfold World.cell? at h
  rw[Array.getElem?_eq_none hge]at h
  cases h
theorem wpIn_named {F:Fence} {n:Nat} {P:Program} {c:Code} {Q:Exit→Act→World→Prop} {a:Act} {w:World} (h:∀W,W=w→c.wpIn F n P Q a W):c.wpIn F n P Q a w:=h w rfl
/-- The corner of a number (0, 0 where there is none), and the edge from it. -/
def ptAt (xs:List Pt) (k:Nat):Pt:=xs[k]?.getD ⟨0,0⟩
def edgeV (a b:Pt):Value:= .agg #[.int .i64 a.x,.int .i64 a.y,.int .i64 b.x,.int .i64 b.y]
def edgeAt (xs:List Pt) (k:Nat):Array Value:=#[.int .i64 (k:Int),edgeV (ptAt xs k) (ptAt xs ((k+1)%xs.length))]
theorem ptAt_lt {xs:List Pt} {k:Nat} (h:k<xs.length):ptAt xs k=xs[k]:=by simp[ptAt,h]
set_option maxRecDepth 100000 in
set_option maxHeartbeats 6400000 in
theorem edges1_in (n:Nat) (hn:1≤n) (l B Bs cap:Nat) (A:Option Addr) (len:Nat) (xs:List Pt) (hlen:len≤4611686018427387904) (J Jx:List Nat→World→Prop)
 (W:World) (hJ:AbidesFrom W.heap.size J)
 (hY:∀x W1,x<len→J (List.range x) W1→YieldAt Fence.wide (n-1) Tryz.prog l (edgeAt xs x) W1 fun e W'=>
   (e= .returned (.bool true)∧J (List.range x++[x]) W'∧KeepE B Bs W1 W')∨(e= .returned (.bool false)∧Jx (List.range x++[x]) W'))
 (hBs:W.cell? ⟨Bs,0,none⟩=some (.slice A len cap)) (hr:Reads W B 2 A len (ptsV xs)) (hBW:B≤W.heap.size) (h0:J [] W):
 CallsIn Fence.wide n Tryz.prog 153 #[.func (.yield l) #[] #[],.pointer (some ⟨Bs,0,none⟩)] W fun e W'=>(∃v,e= .returned v)∧
  ((∃ys,ys=List.range len∧J ys W')∨(∃pre,(∃k,k≤len∧pre=List.range k)∧Jx pre W')):=by
 refine callsIn_of_wp Tryz.func153 rfl trivial ?_ rfl
 simp only[Tryz.ntmps153,List.size_toArray,List.length_cons,List.length_nil,Nat.reduceAdd,Nat.reduceSub,Array.replicate_succ,Array.replicate_zero,List.push_toArray,List.append_toArray,List.nil_append,List.cons_append]
 gi_wp2
 gi_loopw [7] (fun i wr=>∃k:Nat,k≤len∧i= .int .i64 k∧J (List.range k) wr∧KeepE B Bs W wr) (fun i _=>len-(intOf i).toNat)
 case atStart=>exact⟨0,Nat.zero_le _,rfl,h0,KeepE.refl _ _ _⟩
 case round=>
  obtain⟨k,hk,rfl,hJs,hkp⟩:=hrel
  have hsz:=hkp.1
  by_cases hlt:k<len
  ·have hbs:Bs<W.heap.size:=cell_lt' hBs
   obtain⟨ad,rfl,hbd,hkl,hcx,hcy⟩:=(hkp.reads hr).pt hlt
   have hln:xs.length=len:=hr.lenPt
   obtain⟨m,hm⟩:∃m,m=(k+1)%len:=⟨_,rfl⟩
   have hml:m<len:=by rw[hm];exact Nat.mod_lt _ (by omega)
   have hmi:((k:Int)+1).tmod (len:Int)=(m:Int):=by
    rw[hm,Int.tmod_eq_emod_of_nonneg (by omega),Int.natCast_emod]
    rfl
   obtain⟨p,hp⟩:∃p,p=ptAt xs k:=⟨_,rfl⟩
   obtain⟨q,hq⟩:∃q,q=ptAt xs m:=⟨_,rfl⟩
   have hpk:xs[k]=p:=by rw[hp,ptAt_lt hkl]
   have hed:edgeAt xs k=#[.int .i64 (k:Int),.agg #[.int .i64 p.x,.int .i64 p.y,.int .i64 q.x,.int .i64 q.y]]:=by
    unfold edgeAt edgeV
    rw[hln,←hm,←hp,←hq]
   rw[hpk]at hcx hcy
   have HP:=Lib.hid (And.intro hp (And.intro hq (And.intro hpk (And.intro hm hln))))
   have HE:=Lib.hid hed
   have HR:=Lib.hid hr
   clear hp hq hpk hm hln hed hr
   gi_wp2
   refine wpIn_named fun W2 hW2=>?_
   have hk2:KeepE B Bs W W2:=by rw[hW2];exact hkp.trans (KeepE.alloc (by omega) (by omega) _)
   have hs2:wr.heap.size<W2.heap.size:=by rw[hW2];simp
   have hJ2:J (List.range k) W2:=by
    rw[hW2]
    exact hJ _ _ _ none hJs (World.grownBy_alloc wr _ none) (fun r e=>by cases e)
   have hJ3:J (List.range k) W2.drew:=hJ _ _ _ none hJ2 (only_drew (World.grownBy.refl W2 none)) (fun r e=>by cases e)
   have hpx:W2.cell? ⟨wr.heap.size,0,none⟩=some (.int .i64 p.x):=by rw[hW2];simp
   have hpy:W2.cell? ⟨wr.heap.size,1,none⟩=some (.int .i64 p.y):=by rw[hW2];simp
   have hb2:W2.cell? ⟨Bs,0,none⟩=some (.slice (some ad) len cap):=(hk2.cell (.inr rfl)).trans hBs
   obtain⟨ad',e',_,hml',hqx,hqy⟩:=(hk2.reads HR.out).pt hml
   obtain rfl:ad=ad':=by simpa using e'
   rw[←ptAt_lt hml',←HP.out.2.1]at hqx hqy
   have hw1:IntKind.i64.wrap ((k:Int)+1)=(k:Int)+1:=IntWalk.i64_in _ (by omega)
   have hmb:(m:Int)<(len:Int):=by omega
   have hY2:=hY k W2.drew hlt hJ3
   rw[HE.out]at hY2
   obtain⟨fn,tmps,assign,body,hy,hR⟩:=hY2
   have hR2:RoundIn Fence.wide (n-1) Tryz.prog l fn tmps assign body W2.drew (fun e W'=>∃bb,e= .returned (.bool bb)∧Hid ((bb=true∧J (List.range k++[k]) W'∧KeepE B Bs W2.drew W')∨(bb=false∧Jx (List.range k++[k]) W'))):=by
    refine hR.mono ?_
    rintro e W' (⟨h1,h2,h3⟩|⟨h1,h2⟩)
    ·exact⟨true,h1,.inl ⟨rfl,h2,h3⟩⟩
    ·exact⟨false,h1,.inr ⟨rfl,h2⟩⟩
   clear hW2 e' hml' hJ2 hJ3 hR hkp hJs hcx hcy
   gi_region_with (refine hR2.mono ?_;rintro e W3 ⟨bb,rfl,hres⟩)
   all_goals
    rcases bb with _|_
    ·gi_wp2
     refine bodyPost_ret (results_none rfl _ _ _) rfl ?_
     rcases hres.out with ⟨h1,_⟩|⟨_,h2⟩
     ·cases h1
     ·exact⟨⟨_,rfl⟩,.inr ⟨_,⟨k+1,by omega,List.range_succ.symm⟩,h2⟩⟩
    ·have h3:J (List.range k++[k]) W3∧KeepE B Bs W W3:=by
      rcases hres.out with ⟨_,h1,h2⟩|⟨h1,_⟩
      ·exact⟨h1,hk2.trans h2⟩
      ·cases h1
     have H3:=Lib.hid h3
     clear h3 hres
     gi_wp2
     go_roundw
     case rel=>exact⟨k+1,by omega,by simp,by rw[List.range_succ];exact H3.out.1,H3.out.2⟩
     case measure=>simp[intOf];omega
  ·obtain rfl:k=len:=by omega
   gi_wp2
   go_end0
   exact⟨⟨_,rfl⟩,.inl ⟨_,rfl,hJs⟩⟩
end Go.Proofs.YtpkeacnacjnlcaaGreat
namespace Go.Proofs.YtpkeacnacjnlcaaGreat
open Go.RowKit
theorem mod_tmod (k n:Nat):((k:Int)+1).tmod (n:Int)=(((k+1)%n:Nat):Int):=by
 rw[Int.tmod_eq_emod_of_nonneg (by omega),Int.natCast_emod]
 rfl
/-- The corner of a number in memory. -/
theorem Reads.ptA {w:World} {B n:Nat} {ad:Addr} {l:List Pt} (h:Reads w B 2 (some ad) n (ptsV l)) {k:Nat} (hk:k<n):
 ad.block<B∧w.cell? (ad.add (k*2))=some (.int .i64 (ptAt l k).x)∧w.cell? ⟨(ad.add (k*2)).block,(ad.add (k*2)).off+1,none⟩=some (.int .i64 (ptAt l k).y):=by
 obtain⟨ad',e,hb,hk',h1,h2⟩:=h.pt hk
 obtain rfl:ad=ad':=by simpa using e
 rw[ptAt_lt hk']
 exact⟨hb,h1,h2⟩
/-- A block that holds one point. -/
def PtK (W:World) (g:Nat) (p:Pt):Prop:=Blk W g 23 #[.int .i64 p.x,.int .i64 p.y]
theorem PtK.facts {W:World} {g:Nat} {p:Pt} (h:PtK W g p):W.cell? ⟨g,0,none⟩=some (.int .i64 p.x)∧W.cell? ⟨g,1,none⟩=some (.int .i64 p.y)∧W.frozen? ⟨g,0,none⟩=false∧W.frozen? ⟨g,1,none⟩=false∧g<W.heap.size:=
 ⟨by rw[Blk.cell h 0];rfl,by rw[Blk.cell h 1];rfl,Blk.frozen h 0,Blk.frozen h 1,Blk.lt h⟩
theorem PtK.new (w:World) (p:Pt):PtK (w.alloc (.cells #[.int .i64 p.x,.int .i64 p.y] 23)) w.heap.size p:=Blk.new w _ _
theorem PtK.on {w w':World} {g:Nat} {p:Pt} (h:PtK w g p) (hb:Below w.heap.size w w'):PtK w' g p:=Blk.below h hb (Blk.lt h)
theorem PtK.alloc {w:World} {g:Nat} {p:Pt} (h:PtK w g p) (o:Obj):PtK (w.alloc o) g p:=Blk.alloc h o
theorem PtK.far {w:World} {g:Nat} {p:Pt} (h:PtK w g p) {a:Addr} (hp:g≠a.block) (u:Value):PtK (w.setCell a u) g p:=Blk.far h hp u
theorem PtK.put {w:World} {g:Nat} {p:Pt} (h:PtK w g p) (q:Pt):PtK ((w.setCell ⟨g,0,none⟩ (.int .i64 q.x)).setCell ⟨g,1,none⟩ (.int .i64 q.y)) g q:=Blk.set_ (Blk.set_ h 0 (.int .i64 q.x)) 1 (.int .i64 q.y)
end Go.Proofs.YtpkeacnacjnlcaaGreat
namespace Go.Proofs.YtpkeacnacjnlcaaGreat
open Go.RowKit Go.Shelf
theorem edges_any (A:Option Addr) (len cap:Nat) (w:World):
 Calls Tryz.prog 98 #[.slice A len cap] w fun e w'=>e= .returned (.func (.func 153) #[] #[.pointer (some ⟨w.heap.size,0,none⟩)])∧w'=w.alloc (.cells #[.slice A len cap] 25):=by
 go_enter Tryz.func98,Tryz.ntmps98
 go_wp2
 go_ret
 exact⟨rfl,rfl⟩
theorem edges_stops (n:Nat) (hn:1≤n) (B Bs cap len:Nat) (A:Option Addr) (xs:List Pt) (hlen:len≤4611686018427387904) (w:World) (hs:Bs<w.heap.size) (hB:B≤w.heap.size) (hc:w.cell? ⟨Bs,0,none⟩=some (.slice A len cap)) (hr:Reads w B 2 A len (ptsV xs)):
 SeqStopsK Fence.wide n Tryz.prog 153 #[.pointer (some ⟨Bs,0,none⟩)] (edgeAt xs) (KeepE B Bs) (fun ys=>ys=List.range len) (fun pre=>∃k,k≤len∧pre=List.range k) len w:=fun l J Jx W hW hJ _ hY h0=>
 edges1_in n hn l B Bs cap A len xs hlen J Jx W hJ (fun x W1 hx hj=>hY _ x W1 hj (by simpa using hx)) ((hW.cell (p:=⟨Bs,0,none⟩) hs).trans hc) (hr.below (hW.mono hB)) (Nat.le_trans hB hW.size) h0
/-- The same, of a body that is told that the edge is one of the ring's. -/
theorem edges_stopsR (n:Nat) (hn:1≤n) (B Bs cap len:Nat) (A:Option Addr) (xs:List Pt) (hlen:len≤4611686018427387904) (w:World) (hs:Bs<w.heap.size) (hB:B≤w.heap.size) (hc:w.cell? ⟨Bs,0,none⟩=some (.slice A len cap)) (hr:Reads w B 2 A len (ptsV xs)):
 SeqStopsK Fence.wide n Tryz.prog 153 #[.pointer (some ⟨Bs,0,none⟩)] (fun x:{k:Nat // k<len}=>edgeAt xs x.1) (KeepE B Bs) (fun ys=>ys.map (·.1)=List.range len) (fun pre=>∃k,k≤len∧pre.map (·.1)=List.range k) len w:=fun l J Jx W hW hJ hJx hY h0=>by
 refine(edges1_in n hn l B Bs cap A len xs hlen (fun pre W=>∃ys:List {k:Nat // k<len},ys.map (·.1)=pre∧J ys W) (fun pre W=>∃ys:List {k:Nat // k<len},ys.map (·.1)=pre∧Jx ys W) W
  (fun s X Y row ⟨ys,e,hj⟩ hg hr=>⟨ys,e,hJ ys X Y row hj hg hr⟩) ?_ ((hW.cell (p:=⟨Bs,0,none⟩) hs).trans hc) (hr.below (hW.mono hB)) (Nat.le_trans hB hW.size) ⟨[],rfl,h0⟩).mono ?_
 ·rintro x W1 hx ⟨ys,e,hj⟩
  have hl:ys.length=x:=by have:=congrArg List.length e;simpa using this
  obtain⟨fn,tmps,assign,body,hy,hR⟩:=hY ys ⟨x,hx⟩ W1 hj (by omega)
  refine⟨fn,tmps,assign,body,hy,hR.mono ?_⟩
  rintro e' W' (⟨h1,h2,h3⟩|⟨h1,h2⟩)
  ·exact .inl ⟨h1,⟨_,by rw[List.map_append,e];rfl,h2⟩,h3⟩
  ·exact .inr ⟨h1,⟨_,by rw[List.map_append,e];rfl,h2⟩⟩
 ·rintro e W' ⟨hv,(⟨ys,rfl,zs,e1,hj⟩|⟨pre,⟨k,hk,rfl⟩,zs,e1,hj⟩)⟩
  ·exact⟨hv,.inl ⟨zs,e1,hj⟩⟩
  ·exact⟨hv,.inr ⟨zs,⟨k,hk,e1⟩,hj⟩⟩
end Go.Proofs.YtpkeacnacjnlcaaGreat
namespace Go.Proofs.YtpkeacnacjnlcaaGreat
open Go.RowKit
/-- A whole number's two halves. -/
def i128 (z:Int):Value:= .agg #[.int .i64 (z/18446744073709551616),.int .u64 (z%18446744073709551616)]
/-- The numbers that are reckoned with here. -/
def small (z:Int):Prop:= -1267650600228229401496703205376≤z∧z≤1267650600228229401496703205376
theorem add64_law (x y c:Int) (hx:0≤x) (hy:0≤y) (hc0:0≤c) (hc:c≤1) (w:World):
 (callFunc 208 #[.int .u64 x,.int .u64 y,.int .u64 c]).run Tryz.prog w=
   .ok (.value (.tuple #[.int .u64 ((x+y+c)%18446744073709551616),.int .u64 ((x+y+c)/18446744073709551616)])) w:=by
 rw[run_callFunc_extern Tryz.func208 (by kernel_rfl) (by kernel_rfl) (by kernel_rfl) (e:=add64Entry) (by kernel_rfl),run_add64 x y c hx hy hc0 hc]
 rfl
theorem of_any (n:Int) (w:World) (h1: -9223372036854775808≤n) (h2:n≤9223372036854775807):
 Calls Tryz.prog 206 #[.int .i64 n] w fun e w'=>e= .returned (i128 n)∧Below w.heap.size w w':=by
 unfold i128
 go_enter Tryz.func206,Tryz.ntmps206
 go_wp2
 have e1:n/9223372036854775808=n/18446744073709551616:=by omega
 have e2:IntKind.u64.wrap n=n%18446744073709551616:=by simp[IntKind.wrap,IntKind.bits,IntKind.signed]
 rw[e1,e2]
 exact bodyPost_ret (v:= .agg #[.int .i64 (n/18446744073709551616),.int .u64 (n%18446744073709551616)]) (by simp[results,Tryz.results206,go_sem]) rfl ⟨rfl,(Below.refl _ _).alloc (Nat.le_refl _) _⟩
theorem u64_wrap (z:Int):IntKind.u64.wrap z=z%18446744073709551616:=by simp[IntKind.wrap,IntKind.bits,IntKind.signed]
set_option maxRecDepth 100000 in
set_option maxHeartbeats 1600000 in
theorem add_any (x y:Int) (w:World) (hx:small x) (hy:small y):
 Calls Tryz.prog 183 #[i128 x,i128 y] w fun e w'=>e= .returned (.tuple #[i128 (x+y),.int .i64 0])∧Below w.heap.size w w':=by
 unfold small at hx hy
 obtain⟨h1,h2⟩:=hx
 obtain⟨h3,h4⟩:=hy
 obtain⟨xh,hxh⟩:∃z,z=x/18446744073709551616:=⟨_,rfl⟩
 obtain⟨xl,hxl⟩:∃z,z=x%18446744073709551616:=⟨_,rfl⟩
 obtain⟨yh,hyh⟩:∃z,z=y/18446744073709551616:=⟨_,rfl⟩
 obtain⟨yl,hyl⟩:∃z,z=y%18446744073709551616:=⟨_,rfl⟩
 obtain⟨sh,hsh⟩:∃z,z=(x+y)/18446744073709551616:=⟨_,rfl⟩
 obtain⟨sl,hsl⟩:∃z,z=(x+y)%18446744073709551616:=⟨_,rfl⟩
 have f1:0≤xl∧xl<18446744073709551616∧0≤yl∧yl<18446744073709551616:=by omega
 have f2: -68719476736≤xh∧xh≤68719476736∧ -68719476736≤yh∧yh≤68719476736∧ -137438953472≤sh∧sh≤137438953472:=by omega
 obtain⟨cc,hcc⟩:∃z,z=(xl+yl+0)/18446744073709551616:=⟨_,rfl⟩
 have f3:0≤cc∧cc≤1:=by omega
 have f4:(xl+yl+0)%18446744073709551616=sl:=by omega
 have f5:sh=xh+yh+cc:=by omega
 have A1:=add64_law xl yl 0 (by omega) (by omega) (by omega) (by omega)
 rw[f4,←hcc]at A1
 have A2:=add64_law (xh%18446744073709551616) (yh%18446744073709551616) cc (by omega) (by omega) (by omega) (by omega)
 obtain⟨c2,hc2⟩:∃z,z=(xh%18446744073709551616+yh%18446744073709551616+cc)/18446744073709551616:=⟨_,rfl⟩
 obtain⟨su,hsu⟩:∃z,z=(xh%18446744073709551616+yh%18446744073709551616+cc)%18446744073709551616:=⟨_,rfl⟩
 rw[←hsu,←hc2]at A2
 have w1:IntKind.u64.wrap xh=xh%18446744073709551616:=u64_wrap _
 have w2:IntKind.u64.wrap yh=yh%18446744073709551616:=u64_wrap _
 have w3:IntKind.i64.wrap su=sh:=by rw[IntKind.wrap_i64];omega
 have hsgn:(¬(xh<0)∧¬(yh<0)∧¬(sh<0))∨(xh<0∧yh<0∧sh<0)∨(xh<0∧¬(yh<0))∨(¬(xh<0)∧yh<0):=by omega
 unfold i128
 rw[←hxh,←hxl,←hyh,←hyl,←hsh,←hsl]
 clear hxh hxl hyh hyl hsh hsl f4 f5 hcc hc2 hsu h1 h2 h3 h4 f1 f2 f3
 rcases hsgn with ⟨g1,g2,g3⟩|⟨g1,g2,g3⟩|⟨g1,g2⟩|⟨g1,g2⟩
 all_goals
  go_enter Tryz.func183,Tryz.ntmps183
  go_wp2
  exact bodyPost_ret (v:= .tuple #[.agg #[.int .i64 sh,.int .u64 sl],.int .i64 0]) (by simp[results,Tryz.results183,go_sem]) rfl ⟨rfl,((((Below.refl _ _).alloc (Nat.le_refl _) _).alloc (by simp) _).alloc (by simp;omega) _).alloc (by simp;omega) _⟩
theorem i128_zero:i128 0= .agg #[.int .i64 0,.int .u64 0]:=rfl
def sgI (z:Int):Int:=if z<0 then -1 else if z=0 then 0 else 1
theorem sign_any (z:Int) (w:World) (hz:small z):
 Calls Tryz.prog 178 #[i128 z] w fun e w'=>e= .returned (.int .i64 (sgI z))∧Below w.heap.size w w':=by
 unfold small at hz
 obtain⟨h1,h2⟩:=hz
 have h3:(z<0∧z/18446744073709551616<0∧sgI z= -1)∨(z=0∧sgI z=0)∨(0<z∧0≤z/18446744073709551616∧(z/18446744073709551616≠0∨z/18446744073709551616=0∧z%18446744073709551616≠0)∧sgI z=1):=by
  unfold sgI
  by_cases a:z<0
  ·left;exact⟨a,by omega,if_pos a⟩
  ·by_cases b:z=0
   ·right;left;exact⟨b,by rw[if_neg a,if_pos b]⟩
   ·right;right;exact⟨by omega,by omega,by omega,by rw[if_neg a,if_neg b]⟩
 rcases h3 with ⟨a,b,e⟩|⟨rfl,e⟩|⟨a,b,c|⟨c,d⟩,e⟩
 ·rw[e]
  unfold i128
  generalize z/18446744073709551616=zh at *
  generalize z%18446744073709551616=zl at *
  clear a h1 h2 e
  go_enter Tryz.func178,Tryz.ntmps178
  go_wp2
  go_ret
  exact⟨rfl,(Below.refl _ _).alloc (Nat.le_refl _) _⟩
 ·rw[e,i128_zero]
  clear e
  go_enter Tryz.func178,Tryz.ntmps178
  go_wp2
  go_ret
  exact⟨rfl,(Below.refl _ _).alloc (Nat.le_refl _) _⟩
 ·rw[e]
  unfold i128
  generalize z/18446744073709551616=zh at *
  generalize z%18446744073709551616=zl at *
  have g1:(zh==0)=false:=by simpa using c
  clear a h1 h2 e c
  go_enter Tryz.func178,Tryz.ntmps178
  go_wp2
  go_ret
  exact⟨rfl,(Below.refl _ _).alloc (Nat.le_refl _) _⟩
 ·rw[e]
  unfold i128
  generalize z/18446744073709551616=zh at *
  generalize z%18446744073709551616=zl at *
  have g1:(zl==0)=false:=by simpa using d
  subst c
  clear a h1 h2 e d b
  go_enter Tryz.func178,Tryz.ntmps178
  go_wp2
  go_ret
  exact⟨rfl,(Below.refl _ _).alloc (Nat.le_refl _) _⟩
/-- A row of whole numbers, as its cells. -/
def wideV (l:List Int):List Value:=l.flatMap fun z=>[.int .i64 (z/18446744073709551616),.int .u64 (z%18446744073709551616)]
theorem wideV_length (l:List Int):(wideV l).length=l.length*2:=by
 induction l with
 |nil=>rfl
 |cons p l ih=>rw[wideV,List.flatMap_cons,List.length_append];rw[wideV]at ih;rw[ih];simp;omega
theorem wideV_append (a b:List Int):wideV (a++b)=wideV a++wideV b:=by simp[wideV]
theorem wideV_one (l:List Int):∀u∈wideV l,u.oneCell'=true:=by
 intro u hu
 simp only[wideV,List.mem_flatMap]at hu
 obtain⟨p,_,hp⟩:=hu
 simp at hp
 rcases hp with rfl|rfl<;>rfl
theorem wideV_get (l:List Int) (k:Nat) (h:k<l.length):(wideV l)[k*2]?=some (.int .i64 (l[k]/18446744073709551616))∧(wideV l)[k*2+1]?=some (.int .u64 (l[k]%18446744073709551616)):=by
 induction l generalizing k with
 |nil=>simp at h
 |cons p l ih=>
  rcases k with _|k
  ·exact⟨rfl,rfl⟩
  ·have:=ih k (by simpa using h)
   rw[wideV,List.flatMap_cons]
   rw[wideV]at this
   rw[Nat.succ_mul,Nat.add_right_comm]
   exact this
theorem Reads.wide {w:World} {B n:Nat} {A:Option Addr} {l:List Int} (h:Reads w B 2 A n (wideV l)) {k:Nat} (hk:k<n):
 ∃ad,A=some ad∧ad.block<B∧∃hk':k<l.length,w.cell? (ad.add (k*2))=some (.int .i64 ((l[k]'hk')/18446744073709551616))∧w.cell? ⟨(ad.add (k*2)).block,(ad.add (k*2)).off+1,none⟩=some (.int .u64 ((l[k]'hk')%18446744073709551616)):=by
 obtain⟨ad,e,hb,hc⟩:=h.2 (by omega)
 have hk':k<l.length:=by have:=h.1;rw[wideV_length]at this;omega
 exact⟨ad,e,hb,hk',hc _ _ (wideV_get l k hk').1,by rw[add_next];exact hc _ _ (wideV_get l k hk').2⟩
/-- A block that is just a whole number. -/
def WdB (w:World) (g:Nat) (z:Int):Prop:=Blk w g 37 #[.int .i64 (z/18446744073709551616),.int .u64 (z%18446744073709551616)]
section
variable {w w':World} {g:Nat} {z:Int}
theorem WdB.facts (h:WdB w g z):w.cell? ⟨g,0,none⟩=some (.int .i64 (z/18446744073709551616))∧w.cell? ⟨g,1,none⟩=some (.int .u64 (z%18446744073709551616))∧w.frozen? ⟨g,0,none⟩=false∧w.frozen? ⟨g,1,none⟩=false∧g<w.heap.size:=
 ⟨by rw[Blk.cell h 0];rfl,by rw[Blk.cell h 1];rfl,Blk.frozen h 0,Blk.frozen h 1,Blk.lt h⟩
theorem WdB.on (h:WdB w g z) (hb:Below w.heap.size w w'):WdB w' g z:=Blk.below h hb (Blk.lt h)
theorem WdB.alloc (h:WdB w g z) (o:Obj):WdB (w.alloc o) g z:=Blk.alloc h o
theorem WdB.put (h:WdB w g z) (y:Int):WdB ((w.setCell ⟨g,0,none⟩ (.int .i64 (y/18446744073709551616))).setCell ⟨g,1,none⟩ (.int .u64 (y%18446744073709551616))) g y:=
 Blk.set_ (Blk.set_ h 0 _) 1 _
end
def sumL (l:List Int):Int:=l.foldl (· + ·) 0
theorem sumL_take (l:List Int) (k:Nat) (h:k<l.length):sumL (l.take (k+1))=sumL (l.take k)+l[k]:=by
 unfold sumL
 rw[List.take_succ_eq_append_getElem h,List.foldl_append]
 rfl
theorem sumL_bd (l:List Int) (h:∀z∈l,-1180591620717411303424≤z∧z≤1180591620717411303424) (k:Nat) (hk:k≤l.length): -(1180591620717411303424*(k:Int))≤sumL (l.take k)∧sumL (l.take k)≤1180591620717411303424*(k:Int):=by
 induction k with
 |zero=>simp[sumL]
 |succ k ih=>
  rw[sumL_take l k (by omega)]
  have h1:=ih (by omega)
  have h2:=h _ (List.getElem_mem (by omega:k<l.length))
  omega
set_option maxHeartbeats 800000 in
theorem total_any (zs:List Int) (A:Option Addr) (n cap:Nat) (w:World) (hr:Reads w w.heap.size 2 A n (wideV zs)) (hn:n≤1000000) (hz:∀z∈zs,-1180591620717411303424≤z∧z≤1180591620717411303424):
 Calls Tryz.prog 151 #[.slice A n cap] w fun e w'=>e= .returned (.tuple #[i128 (sumL zs),.int .i64 0])∧Below w.heap.size w w':=by
 have hl:zs.length=n:=by have:=hr.1;rw[wideV_length]at this;omega
 have HL:=Lib.hid hl
 have HZ:=Lib.hid hz
 clear hl hz
 go_enter Tryz.func151,Tryz.ntmps151
 go_wp2
 generalize hW0:w.alloc (.cells #[.int .i64 0,.int .u64 0] 37)=w0
 have hg0:WdB w0 w.heap.size 0:=by rw[←hW0];exact Blk.new w _ _
 have hB0:Below w.heap.size w w0:=by rw[←hW0];exact(Below.refl _ _).alloc (Nat.le_refl _) _
 clear hW0
 go_loopw [3,8] (fun e i wr=>∃k:Nat,k≤n∧e= .int .i64 0∧i= .int .i64 (k:Int)∧WdB wr w.heap.size (sumL (zs.take k))∧Below w.heap.size w wr) (fun _ i _=>n-(intOf i).toNat)
 case atStart=>exact⟨0,Nat.zero_le _,rfl,rfl,hg0,hB0⟩
 case round=>
  clear hg0 hB0
  obtain⟨k,hk,rfl,rfl,hg,hbel⟩:=hrel
  by_cases hlt:k<n
  ·obtain⟨ad,rfl,hb,hkl,hcx,hcy⟩:=(hr.below hbel).wide hlt
   have hz:=HZ.out _ (List.getElem_mem hkl)
   have hs1:=sumL_bd zs HZ.out k (by omega)
   have hsum:=sumL_take zs k hkl
   obtain⟨z,hzz⟩:∃z,z=zs[k]:=⟨_,rfl⟩
   obtain⟨s,hss⟩:∃s,s=sumL (zs.take k):=⟨_,rfl⟩
   rw[←hzz]at hcx hcy hz hsum
   rw[←hss]at hg hs1 hsum
   have HS:=Lib.hid (And.intro hsum (And.intro hs1 hz))
   clear hzz hss hsum hs1 hz
   have hg1:=hg.alloc (.cells #[.int .i64 (z/18446744073709551616),.int .u64 (z%18446744073709551616)] 37)
   have hb1:=hbel.alloc hbel.size (.cells #[.int .i64 (z/18446744073709551616),.int .u64 (z%18446744073709551616)] 37)
   obtain⟨s1,s2,s3,s4,s5⟩:=hg1.facts
   go_wp2_with fail
   refine(add_any s z _ ?_ ?_).mono ?_
   ·have:=HS.out;unfold small;omega
   ·have:=HS.out;unfold small;omega
   rintro e w2 ⟨rfl,hb2⟩
   replace hg:=hg1.on hb2
   replace hbel:=below_on hb1 (Nat.le_refl _) hb2
   rw[←HS.out.1]
   clear hb2 hg1 hb1 s1 s2 s3 s4 s5 hcx hcy
   obtain⟨s1,s2,s3,s4,s5⟩:=hg.facts
   unfold i128
   go_wp2
   go_roundw
   case rel=>exact⟨k+1,by omega,rfl,by go_num,hg.put _,(hbel.setCell (p:=⟨w.heap.size,0,none⟩) (Nat.le_refl _) _).setCell (p:=⟨w.heap.size,1,none⟩) (Nat.le_refl _) _⟩
   case measure=>simp[intOf];omega
  ·have hkn:k=n:=by omega
   subst hkn
   obtain⟨s,hss⟩:∃s,s=sumL zs:=⟨_,rfl⟩
   have e:sumL (zs.take k)=s:=by rw[hss,List.take_of_length_le (by have:=HL.out;omega)]
   rw[e]at hg
   have HSS:=Lib.hid hss
   clear e hss
   have hgp:=hg.put s
   obtain⟨s1,s2,s3,s4,s5⟩:=hg.facts
   obtain⟨p1,p2,p3,p4,p5⟩:=hgp.facts
   clear hg hgp
   go_wp2
   exact bodyPost_ret (v:= .tuple #[.agg #[.int .i64 (s/18446744073709551616),.int .u64 (s%18446744073709551616)],.int .i64 0]) (by simp[results,Tryz.results151,go_sem,p1,p2]) rfl ⟨by rw[←HSS.out];rfl,(hbel.setCell (p:=⟨w.heap.size,0,none⟩) (Nat.le_refl _) _).setCell (p:=⟨w.heap.size,1,none⟩) (Nat.le_refl _) _⟩
end Go.Proofs.YtpkeacnacjnlcaaGreat
namespace Go.Proofs.YtpkeacnacjnlcaaGreat
def sgn (z:Int):Int:=if z<0 then -1 else if 0<z then 1 else 0
def cmpI (x y:Int):Int:=if x<y then -1 else if y<x then 1 else 0
/-- The order of points: by X, then by Y. -/
def orI (x y:Int):Int:=if x≠0 then x else y
def ordI (a b:Pt):Int:=orI (cmpI a.x b.x) (cmpI a.y b.y)
/-- Twice the area of three points, with a sign. -/
def cr (a b c:Pt):Int:=(b.x-a.x)*(c.y-a.y)-(b.y-a.y)*(c.x-a.x)
def btw (a b n:Int):Bool:=decide ((a≤n∧n≤b)∨(b≤n∧n≤a))
/-- Is p on the stretch? -/
def onB (a b p:Pt):Bool:=decide (cr a b p=0)&&(btw a.x b.x p.x&&btw a.y b.y p.y)
theorem cmpI_bd (x y:Int): -1≤cmpI x y∧cmpI x y≤1:=by unfold cmpI;split<;>(try split)<;>omega
theorem sgn_bd (z:Int): -1≤sgn z∧sgn z≤1:=cmpI_bd z 0
theorem sgn_eq {z:Int}:sgn z=0↔z=0:=by unfold sgn;split<;>(try split)<;>omega
theorem mulb (x y M:Int) (hx:0≤x) (h1: -M≤y) (h2:y≤M): -(x*M)≤x*y∧x*y≤x*M:=by
 have e1:=Int.mul_le_mul_of_nonneg_left h2 hx
 have e2:=Int.mul_le_mul_of_nonneg_left h1 hx
 rw[Int.mul_neg]at e2
 exact⟨e2,e1⟩
/-- A product of two numbers within 2^31. -/
theorem prod_bd (x y:Int) (h1: -2147483648≤x) (h2:x≤2147483648) (h3: -2147483648≤y) (h4:y≤2147483648): -4611686018427387904≤x*y∧x*y≤4611686018427387904:=by
 by_cases h:0≤x
 ·have:=mulb x y 2147483648 h h3 h4
  omega
 ·have:=mulb (-x) y 2147483648 (by omega) h3 h4
  simp only[Int.neg_mul]at this
  omega
theorem cr_bd' (u v s t:Int) (hu: -2147483648≤u∧u≤2147483648) (hv: -2147483648≤v∧v≤2147483648) (hs: -2147483648≤s∧s≤2147483648) (ht: -2147483648≤t∧t≤2147483648)
 (hut: -2147483648≤u-t∧u-t≤2147483648) (hvs: -2147483648≤v-s∧v-s≤2147483648): -4611686018427387904≤u*v-s*t∧u*v-s*t≤4611686018427387904:=by
 rw[Int.mul_comm s t]
 by_cases h1:0≤u<;>by_cases h2:0≤t
 ·by_cases h3:t≤u
  ·have e:u*v-t*s=(u-t)*v+t*(v-s):=by grind
   have a1:=mulb (u-t) v 2147483648 (by omega) hv.1 hv.2
   have a2:=mulb t (v-s) 2147483648 h2 hvs.1 hvs.2
   omega
  ·have e:u*v-t*s=u*(v-s)-(t-u)*s:=by grind
   have a1:=mulb (t-u) s 2147483648 (by omega) hs.1 hs.2
   have a2:=mulb u (v-s) 2147483648 h1 hvs.1 hvs.2
   omega
 ·have a1:=mulb u v 2147483648 h1 hv.1 hv.2
  have a2:=mulb (-t) s 2147483648 (by omega) hs.1 hs.2
  simp only[Int.neg_mul]at a2
  omega
 ·have a1:=mulb (-u) v 2147483648 (by omega) hv.1 hv.2
  have a2:=mulb t s 2147483648 (by omega) hs.1 hs.2
  simp only[Int.neg_mul]at a1
  omega
 ·by_cases h3:t≤u
  ·have e:u*v-t*s= -((-u)*(v-s))+(u-t)*s:=by grind
   have a1:=mulb (u-t) s 2147483648 (by omega) hs.1 hs.2
   have a2:=mulb (-u) (v-s) 2147483648 (by omega) hvs.1 hvs.2
   omega
  ·have e:u*v-t*s= -((t-u)*v)-(-t)*(v-s):=by grind
   have a1:=mulb (t-u) v 2147483648 (by omega) hv.1 hv.2
   have a2:=mulb (-t) (v-s) 2147483648 (by omega) hvs.1 hvs.2
   omega
theorem cr_bd {a b c:Pt} (ha:good a=true) (hb:good b=true) (hc:good c=true): -4611686018427387904≤cr a b c∧cr a b c≤4611686018427387904:=by
 rw[good_iff]at ha hb hc
 unfold cr
 exact cr_bd' _ _ _ _ (by omega) (by omega) (by omega) (by omega) (by omega) (by omega)
theorem cr_parts {a b c:Pt} (ha:good a=true) (hb:good b=true) (hc:good c=true):
 (-4611686018427387904≤(b.x-a.x)*(c.y-a.y)∧(b.x-a.x)*(c.y-a.y)≤4611686018427387904)∧ -4611686018427387904≤(b.y-a.y)*(c.x-a.x)∧(b.y-a.y)*(c.x-a.x)≤4611686018427387904:=by
 rw[good_iff]at ha hb hc
 exact⟨prod_bd _ _ (by omega) (by omega) (by omega) (by omega),prod_bd _ _ (by omega) (by omega) (by omega) (by omega)⟩
/-- The lesser end first. -/
def endA (a b:Pt):Pt:=if 0<ordI a b then b else a
def endB (a b:Pt):Pt:=if 0<ordI a b then a else b
/-- As the program asks whether p is on the stretch. -/
def onP (a b p:Pt):Bool:=decide (sgn (cr a b p)=0)&&(decide (ordI (endA a b) p≤0)&&decide (ordI p (endB a b)≤0))
theorem onP_cases (a b p:Pt):(¬sgn (cr a b p)=0∧onP a b p=false)∨(sgn (cr a b p)=0∧0<ordI (endA a b) p∧onP a b p=false)∨(sgn (cr a b p)=0∧ordI (endA a b) p≤0∧0<ordI p (endB a b)∧onP a b p=false)∨(sgn (cr a b p)=0∧ordI (endA a b) p≤0∧ordI p (endB a b)≤0∧onP a b p=true):=by
 unfold onP
 by_cases h1:sgn (cr a b p)=0
 ·right
  by_cases h2:ordI (endA a b) p≤0
  ·right
   by_cases h3:ordI p (endB a b)≤0
   ·right;exact⟨h1,h2,h3,by simp[h1,h2,h3]⟩
   ·left;exact⟨h1,h2,by omega,by simp[h3]⟩
  ·left;exact⟨h1,by omega,by simp[h2]⟩
 ·left;exact⟨h1,by simp[h1]⟩
def lnF (a b c d:Pt):Pt:=if 0<ordI (endA a b) (endA c d)then endA a b else endA c d
def lnT (a b c d:Pt):Pt:=if ordI (endB c d) (endB a b)<0 then endB c d else endB a b
def lineI (a b c d:Pt):Int:=if 0<ordI (lnF a b c d) (lnT a b c d)then 0 else if ordI (lnF a b c d) (lnT a b c d)=0 then 1 else 3
theorem lineI_cases (a b c d:Pt):(0<ordI (lnF a b c d) (lnT a b c d)∧lineI a b c d=0)∨(ordI (lnF a b c d) (lnT a b c d)=0∧lineI a b c d=1)∨(ordI (lnF a b c d) (lnT a b c d)<0∧lineI a b c d=3):=by
 unfold lineI
 split
 ·exact .inl ⟨by assumption,rfl⟩
 ·split
  ·exact .inr (.inl ⟨by assumption,rfl⟩)
  ·exact .inr (.inr ⟨by omega,rfl⟩)
def mx (x y:Int):Int:=if x<y then y else x
def mn (x y:Int):Int:=if y<x then y else x
/-- Do the stretches lie beyond one another? -/
def apB (a b c d:Pt):Bool:=decide (mx a.x b.x<mn c.x d.x∨mx c.x d.x<mn a.x b.x∨mx a.y b.y<mn c.y d.y∨mx c.y d.y<mn a.y b.y)
def zeB (a b c d:Pt):Bool:=decide (sgn (cr a b c)=0∧sgn (cr a b d)=0∧sgn (cr c d a)=0∧sgn (cr c d b)=0)
def prB (a b c d:Pt):Bool:=decide (sgn (cr a b c)*sgn (cr a b d)<0∧sgn (cr c d a)*sgn (cr c d b)<0)
def oeB (a b c d:Pt):Bool:=onP a b c||(onP a b d||(onP c d a||onP c d b))
def meetP (a b c d:Pt):Int:=if apB a b c d=true then 0 else if zeB a b c d=true then lineI a b c d else if prB a b c d=true then 2 else if oeB a b c d=true then 1 else 0
theorem cmpI_cases (x y:Int):(x<y∧cmpI x y= -1)∨(y<x∧cmpI x y=1)∨(x=y∧cmpI x y=0):=by unfold cmpI;split<;>(try split)<;>omega
/-- A point as one number, by X, then by Y. -/
def key (p:Pt):Int:=p.x*8589934592+p.y
theorem key_ord {p q:Pt} (hp:good p=true) (hq:good q=true):(key p<key q∧ordI p q= -1)∨(key q<key p∧ordI p q=1)∨(p=q∧key p=key q∧ordI p q=0):=by
 rw[good_iff]at hp hq
 unfold key ordI orI
 rcases cmpI_cases p.x q.x with ⟨h,e⟩|⟨h,e⟩|⟨h,e⟩<;>rw[e]
 ·left;exact⟨by omega,by simp⟩
 ·right;left;exact⟨by omega,by simp⟩
 ·rcases cmpI_cases p.y q.y with ⟨h',e'⟩|⟨h',e'⟩|⟨h',e'⟩<;>rw[e']
  ·left;exact⟨by omega,by simp⟩
  ·right;left;exact⟨by omega,by simp⟩
  ·right;right
   obtain⟨px,py⟩:=p
   obtain⟨qx,qy⟩:=q
   simp only at h h'
   subst h h'
   exact⟨rfl,rfl,by simp⟩
theorem ends_key {a b:Pt} (ha:good a=true) (hb:good b=true):(key a≤key b∧endA a b=a∧endB a b=b)∨(key b<key a∧endA a b=b∧endB a b=a):=by
 unfold endA endB
 rcases key_ord ha hb with ⟨h,e⟩|⟨h,e⟩|⟨h,h',e⟩<;>rw[e]
 ·left;exact⟨by omega,by simp,by simp⟩
 ·right;exact⟨by omega,by simp,by simp⟩
 ·left;exact⟨by omega,by simp,by simp⟩
/-- Is p on the stretch, by keys? -/
theorem onP_key {a b p:Pt} (ha:good a=true) (hb:good b=true) (hp:good p=true):onP a b p=true↔cr a b p=0∧((key a≤key p∧key p≤key b)∨(key b≤key p∧key p≤key a)):=by
 unfold onP
 simp only[Bool.and_eq_true,decide_eq_true_eq,sgn_eq]
 rcases ends_key ha hb with ⟨h,e1,e2⟩|⟨h,e1,e2⟩<;>rw[e1,e2]
 ·have h1:=key_ord ha hp
  have h2:=key_ord hp hb
  constructor
  ·rintro⟨h0,h3,h4⟩;exact⟨h0,by omega⟩
  ·rintro⟨h0,h3⟩;exact⟨h0,by omega,by omega⟩
 ·have h1:=key_ord hb hp
  have h2:=key_ord hp ha
  constructor
  ·rintro⟨h0,h3,h4⟩;exact⟨h0,by omega⟩
  ·rintro⟨h0,h3⟩;exact⟨h0,by omega,by omega⟩
theorem nn_of_mul {u t:Int} (hu:0<u) (h:0≤u*t):0≤t:=by
 by_cases ht:0≤t
 ·exact ht
 ·have:=Int.mul_neg_of_pos_of_neg hu (by omega:t<0)
  omega
theorem le_of_mul {u s t:Int} (hu:0<u) (h:u*s≤u*t):s≤t:=by
 have:0≤u*(t-s):=by rw[Int.mul_sub];omega
 have:=nn_of_mul hu this
 omega
/-- Along a stretch that is not upright: where x lies between, so does y. -/
theorem line_btw {u v s t:Int} (hu:0<u) (h:u*t=v*s) (h0:0≤s) (h1:s≤u):(0≤t∧t≤v)∨(v≤t∧t≤0):=by
 by_cases hv:0≤v
 ·left
  have a1:=Int.mul_nonneg hv h0
  have a2:=Int.mul_le_mul_of_nonneg_left h1 hv
  refine⟨nn_of_mul hu (by omega),le_of_mul hu ?_⟩
  rw[h,Int.mul_comm u v];exact a2
 ·right
  have a1:=Int.mul_nonneg (by omega:0≤ -v) h0
  have a2:=Int.mul_le_mul_of_nonneg_left h1 (by omega:0≤ -v)
  simp only[Int.neg_mul]at a1 a2
  refine⟨le_of_mul hu ?_,?_⟩
  ·rw[h,Int.mul_comm u v];omega
  ·have:0≤u*(-t):=by rw[Int.mul_neg,h];exact a1
   have:=nn_of_mul hu this
   omega
theorem line_zero {u t:Int} (hu:u≠0) (h:u*t=0):t=0:=by
 rcases Int.mul_eq_zero.1 h with h|h
 ·exact absurd h hu
 ·exact h
/-- The two ways to ask whether p is between. -/
theorem btw_key {a b p:Pt} (ha:good a=true) (hb:good b=true) (hp:good p=true) (h:cr a b p=0):
 ((key a≤key p∧key p≤key b)∨(key b≤key p∧key p≤key a))↔(((a.x≤p.x∧p.x≤b.x)∨(b.x≤p.x∧p.x≤a.x))∧((a.y≤p.y∧p.y≤b.y)∨(b.y≤p.y∧p.y≤a.y))):=by
 rw[good_iff]at ha hb hp
 unfold cr at h
 unfold key
 obtain⟨u,hu⟩:∃u,u=b.x-a.x:=⟨_,rfl⟩
 obtain⟨v,hv⟩:∃v,v=b.y-a.y:=⟨_,rfl⟩
 obtain⟨s,hs⟩:∃s,s=p.x-a.x:=⟨_,rfl⟩
 obtain⟨t,ht⟩:∃t,t=p.y-a.y:=⟨_,rfl⟩
 rw[←hu,←hv,←hs,←ht]at h
 have h3:0<u∨u<0∨u=0:=by omega
 rcases h3 with h3|h3|h3
 ·have e:=line_btw (s:=s) (t:=t) (v:=v) h3 (by omega)
  have z1:s=0→t=0:=fun q=>line_zero (by omega:u≠0) (by rw[q]at h;simpa using h)
  have z2:s=u→t=v:=fun q=>by
   have:u*(t-v)=0:=by rw[Int.mul_sub];rw[q,Int.mul_comm v u]at h;omega
   have:=line_zero (by omega:u≠0) this
   omega
  constructor
  ·intro q
   have:=e (by omega) (by omega)
   omega
  ·intro q
   have:=e (by omega) (by omega)
   by_cases q1:s=0
   ·have:=z1 q1;omega
   ·by_cases q2:s=u
    ·have:=z2 q2;omega
    ·omega
 ·have e:=line_btw (u:= -u) (s:= -s) (t:= -t) (v:= -v) (by omega) (by rw[Int.neg_mul_neg,Int.neg_mul_neg];omega)
  have z1:s=0→t=0:=fun q=>line_zero (by omega:u≠0) (by rw[q]at h;simpa using h)
  have z2:s=u→t=v:=fun q=>by
   have:u*(t-v)=0:=by rw[Int.mul_sub];rw[q,Int.mul_comm v u]at h;omega
   have:=line_zero (by omega:u≠0) this
   omega
  constructor
  ·intro q
   have:=e (by omega) (by omega)
   omega
  ·intro q
   have:=e (by omega) (by omega)
   by_cases q1:s=0
   ·have:=z1 q1;omega
   ·by_cases q2:s=u
    ·have:=z2 q2;omega
    ·omega
 ·subst h3
  have h':v*s=0:=by simp only[Int.zero_mul]at h;omega
  rcases Int.mul_eq_zero.1 h' with q|q
  ·constructor
   ·intro;omega
   ·intro;omega
  ·constructor
   ·intro;omega
   ·intro;omega
theorem onB_iff (a b p:Pt):onB a b p=true↔cr a b p=0∧((a.x≤p.x∧p.x≤b.x)∨(b.x≤p.x∧p.x≤a.x))∧((a.y≤p.y∧p.y≤b.y)∨(b.y≤p.y∧p.y≤a.y)):=by
 unfold onB btw
 simp only[Bool.and_eq_true,decide_eq_true_eq]
theorem onP_eq {a b p:Pt} (ha:good a=true) (hb:good b=true) (hp:good p=true):onP a b p=onB a b p:=by
 rw[Bool.eq_iff_iff,onP_key ha hb hp,onB_iff]
 constructor
 ·rintro⟨h,q⟩;exact⟨h,(btw_key ha hb hp h).1 q⟩
 ·rintro⟨h,q⟩;exact⟨h,(btw_key ha hb hp h).2 q⟩
/-- Is one of them another one than the first? -/
def difB:List Pt→Bool
 |[]=>false
 |e::t=>t.any fun p=>decide (p≠e)
/-- The ends that both have. -/
def endsL (a b c d:Pt):List Pt:=(if onB c d a=true then[a]else[])++((if onB c d b=true then[b]else[])++((if onB a b c=true then[c]else[])++(if onB a b d=true then[d]else[])))
def meetR (a b c d:Pt):Int:=if difB (endsL a b c d)=true then 3 else if endsL a b c d≠[]then 1 else if prB a b c d=true then 2 else 0
theorem onB_self (a b:Pt):onB a b a=true∧onB a b b=true:=by
 rw[onB_iff,onB_iff]
 unfold cr
 refine⟨⟨by grind,by omega,by omega⟩,by grind,by omega,by omega⟩
theorem endsL_mem {a b c d e:Pt} (h:e∈endsL a b c d):onB a b e=true∧onB c d e=true:=by
 unfold endsL at h
 simp only[List.mem_append]at h
 rcases h with h|h|h|h<;>split at h<;>simp at h<;>subst h
 ·exact⟨(onB_self _ _).1,by assumption⟩
 ·exact⟨(onB_self _ _).2,by assumption⟩
 ·exact⟨by assumption,(onB_self _ _).1⟩
 ·exact⟨by assumption,(onB_self _ _).2⟩
theorem difB_two {l:List Pt} (h:difB l=true):∃p q,p∈l∧q∈l∧p≠q:=by
 rcases l with _|⟨e,t⟩
 ·simp[difB]at h
 ·simp only[difB,List.any_eq_true,decide_eq_true_eq]at h
  obtain⟨p,hp,hne⟩:=h
  exact⟨p,e,by simp[hp],by simp,hne⟩
/-- Two ways along one third are along one another. -/
theorem par {w1 w2 p1 p2 q1 q2:Int} (hw:w1≠0∨w2≠0) (hp:w1*p2-w2*p1=0) (hq:w1*q2-w2*q1=0):p1*q2-p2*q1=0:=by
 have e1:w1*(p1*q2-p2*q1)=p1*(w1*q2-w2*q1)-q1*(w1*p2-w2*p1):=by grind
 have e2:w2*(p1*q2-p2*q1)=p2*(w1*q2-w2*q1)-q2*(w1*p2-w2*p1):=by grind
 rw[hp,hq]at e1 e2
 simp only[Int.mul_zero,Int.sub_self]at e1 e2
 rcases hw with hw|hw
 ·exact line_zero hw e1
 ·exact line_zero hw e2
theorem pt_ne {p q:Pt} (h:p≠q):p.x≠q.x∨p.y≠q.y:=by
 obtain⟨a,b⟩:=p
 obtain⟨c,d⟩:=q
 by_cases h1:a=c
 ·right
  rintro rfl
  exact h (by rw[h1])
 ·exact .inl h1
theorem two_common {a b c d P Q:Pt} (hne:P≠Q) (h1:onB a b P=true) (h2:onB a b Q=true) (h3:onB c d P=true) (h4:onB c d Q=true):
 cr a b c=0∧cr a b d=0∧cr c d a=0∧cr c d b=0:=by
 rw[onB_iff]at h1 h2 h3 h4
 obtain⟨z1,x1,y1⟩:=h1
 obtain⟨z2,x2,y2⟩:=h2
 obtain⟨z3,x3,y3⟩:=h3
 obtain⟨z4,x4,y4⟩:=h4
 have hne':=pt_ne hne
 unfold cr at *
 have hw:Q.x-P.x≠0∨Q.y-P.y≠0:=by omega
 have hv:b.x-a.x≠0∨b.y-a.y≠0:=by omega
 have hv':d.x-c.x≠0∨d.y-c.y≠0:=by omega
 have e1:(Q.x-P.x)*(b.y-a.y)-(Q.y-P.y)*(b.x-a.x)=0:=by grind
 have e2:(Q.x-P.x)*(d.y-c.y)-(Q.y-P.y)*(d.x-c.x)=0:=by grind
 have e3:=par hw e1 e2
 have f1:(b.x-a.x)*(P.y-c.y)-(b.y-a.y)*(P.x-c.x)=0:=by
  have:=par hv' (p1:=b.x-a.x) (p2:=b.y-a.y) (q1:=P.x-c.x) (q2:=P.y-c.y) (by grind) (by grind)
  exact this
 have f2:(d.x-c.x)*(P.y-a.y)-(d.y-c.y)*(P.x-a.x)=0:=by
  have:=par hv (p1:=d.x-c.x) (p2:=d.y-c.y) (q1:=P.x-a.x) (q2:=P.y-a.y) (by grind) (by grind)
  exact this
 have g1:(b.x-a.x)*(P.y-d.y)-(b.y-a.y)*(P.x-d.x)=0:=by
  have:=par hv' (p1:=b.x-a.x) (p2:=b.y-a.y) (q1:=P.x-d.x) (q2:=P.y-d.y) (by grind) (by grind)
  exact this
 have g2:(d.x-c.x)*(P.y-b.y)-(d.y-c.y)*(P.x-b.x)=0:=by
  have:=par hv (p1:=d.x-c.x) (p2:=d.y-c.y) (q1:=P.x-b.x) (q2:=P.y-b.y) (by grind) (by grind)
  exact this
 refine⟨by grind,by grind,by grind,by grind⟩
/-- Two that lie beyond one another along one axis do not cross. -/
theorem apart {A B C D p q r s m:Int} (h:B*p-A*q=C*s-D*r) (hk:B-A=C-D) (h1:p≤m) (h2:q≤m) (h3:m<r) (h4:m<s) (hab:(A<0∧0<B)∨(B<0∧0<A)) (hcd:(C<0∧0<D)∨(D<0∧0<C)):False:=by
 rcases hab with ⟨hA,hB⟩|⟨hB,hA⟩
 ·have hC:D<0∧0<C:=by omega
  have a1:=Int.mul_nonneg (by omega:0≤B) (by omega:0≤m-p)
  have a2:=Int.mul_nonneg (by omega:0≤ -A) (by omega:0≤m-q)
  have a3:=Int.mul_pos hC.2 (by omega:0<s-m)
  have a4:=Int.mul_pos (by omega:0< -D) (by omega:0<r-m)
  have:B*(m-p)+(-A)*(m-q)+C*(s-m)+(-D)*(r-m)=0:=by grind
  omega
 ·have hC:C<0∧0<D:=by omega
  have a1:=Int.mul_nonneg (by omega:0≤ -B) (by omega:0≤m-p)
  have a2:=Int.mul_nonneg (by omega:0≤A) (by omega:0≤m-q)
  have a3:=Int.mul_pos (by omega:0< -C) (by omega:0<s-m)
  have a4:=Int.mul_pos hC.2 (by omega:0<r-m)
  have:(-B)*(m-p)+A*(m-q)+(-C)*(s-m)+D*(r-m)=0:=by grind
  omega
theorem cr_ids (a b c d:Pt):cr c d b*a.x-cr c d a*b.x=cr a b c*d.x-cr a b d*c.x∧cr c d b*a.y-cr c d a*b.y=cr a b c*d.y-cr a b d*c.y∧cr c d b-cr c d a=cr a b c-cr a b d:=by
 unfold cr
 refine⟨by grind,by grind,by grind⟩
theorem sgn_mul_neg {x y:Int}:sgn x*sgn y<0↔(x<0∧0<y)∨(y<0∧0<x):=by
 unfold sgn
 split
 ·split
  ·omega
  ·split<;>omega
 ·split
  ·split
   ·omega
   ·split<;>omega
  ·omega
theorem prB_iff (a b c d:Pt):prB a b c d=true↔((cr a b c<0∧0<cr a b d)∨(cr a b d<0∧0<cr a b c))∧((cr c d a<0∧0<cr c d b)∨(cr c d b<0∧0<cr c d a)):=by
 unfold prB
 rw[decide_eq_true_eq,sgn_mul_neg,sgn_mul_neg]
theorem mx_mn (x y:Int):x≤mx x y∧y≤mx x y∧mn x y≤x∧mn x y≤y∧(mx x y=x∨mx x y=y)∧(mn x y=x∨mn x y=y):=by
 unfold mx mn
 split<;>split<;>omega
theorem ap_pr {a b c d:Pt} (h:apB a b c d=true):prB a b c d=false:=by
 rcases hp:prB a b c d with _|_
 ·rfl
 ·exfalso
  rw[prB_iff]at hp
  obtain⟨hcd,hab⟩:=hp
  obtain⟨i1,i2,i3⟩:=cr_ids a b c d
  unfold apB at h
  rw[decide_eq_true_eq]at h
  have m1:=mx_mn a.x b.x
  have m2:=mx_mn c.x d.x
  have m3:=mx_mn a.y b.y
  have m4:=mx_mn c.y d.y
  rcases h with h|h|h|h
  ·exact apart i1 i3 m1.1 m1.2.1 (Int.lt_of_lt_of_le h m2.2.2.1) (Int.lt_of_lt_of_le h m2.2.2.2.1) hab hcd
  ·exact apart i1.symm i3.symm m2.2.1 m2.1 (Int.lt_of_lt_of_le h m1.2.2.2.1) (Int.lt_of_lt_of_le h m1.2.2.1) hcd.symm hab.symm
  ·exact apart i2 i3 m3.1 m3.2.1 (Int.lt_of_lt_of_le h m4.2.2.1) (Int.lt_of_lt_of_le h m4.2.2.2.1) hab hcd
  ·exact apart i2.symm i3.symm m4.2.1 m4.1 (Int.lt_of_lt_of_le h m3.2.2.2.1) (Int.lt_of_lt_of_le h m3.2.2.1) hcd.symm hab.symm
theorem btw_box {a b p:Int} (h:(a≤p∧p≤b)∨(b≤p∧p≤a)):p≤mx a b∧mn a b≤p:=by
 have:=mx_mn a b
 omega
theorem ap_ends {a b c d:Pt} (h:apB a b c d=true):endsL a b c d=[]:=by
 rw[List.eq_nil_iff_forall_not_mem]
 intro e he
 obtain⟨h1,h2⟩:=endsL_mem he
 rw[onB_iff]at h1 h2
 unfold apB at h
 rw[decide_eq_true_eq]at h
 have m1:=btw_box h1.2.1
 have m2:=btw_box h2.2.1
 have m3:=btw_box h1.2.2
 have m4:=btw_box h2.2.2
 clear h1 h2
 omega
theorem key_inj {p q:Pt} (hp:good p=true) (hq:good q=true):p=q↔key p=key q:=by
 rcases key_ord hp hq with ⟨h,_⟩|⟨h,_⟩|⟨h,h',_⟩
 ·exact⟨fun e=>by rw[e],fun e=>by omega⟩
 ·exact⟨fun e=>by rw[e],fun e=>by omega⟩
 ·exact⟨fun _=>h',fun _=>h⟩
/-- Two stretches of one line, by keys. -/
theorem lineI_key {a b c d:Pt} (ha:good a=true) (hb:good b=true) (hc:good c=true) (hd:good d=true):
 ∃lo1 hi1 lo2 hi2:Int,((key a≤key b∧lo1=key a∧hi1=key b)∨(key b<key a∧lo1=key b∧hi1=key a))∧((key c≤key d∧lo2=key c∧hi2=key d)∨(key d<key c∧lo2=key d∧hi2=key c))∧
  (((hi1<lo1∨hi1<lo2∨hi2<lo1∨hi2<lo2)∧lineI a b c d=0)∨((lo1≤hi1∧lo1≤hi2∧lo2≤hi1∧lo2≤hi2)∧(lo1=hi1∨lo1=hi2∨lo2=hi1∨lo2=hi2)∧lineI a b c d=1)∨((lo1<hi1∧lo1<hi2∧lo2<hi1∧lo2<hi2)∧lineI a b c d=3)):=by
 obtain⟨l1,hl1⟩:∃q,q=endA a b:=⟨_,rfl⟩
 obtain⟨h1,hh1⟩:∃q,q=endB a b:=⟨_,rfl⟩
 obtain⟨l2,hl2⟩:∃q,q=endA c d:=⟨_,rfl⟩
 obtain⟨h2,hh2⟩:∃q,q=endB c d:=⟨_,rfl⟩
 have e1:=ends_key ha hb
 have e2:=ends_key hc hd
 rw[←hl1,←hh1]at e1
 rw[←hl2,←hh2]at e2
 have gl1:good l1=true:=by rcases e1 with ⟨_,e,_⟩|⟨_,e,_⟩<;>rw[e]<;>assumption
 have gh1:good h1=true:=by rcases e1 with ⟨_,_,e⟩|⟨_,_,e⟩<;>rw[e]<;>assumption
 have gl2:good l2=true:=by rcases e2 with ⟨_,e,_⟩|⟨_,e,_⟩<;>rw[e]<;>assumption
 have gh2:good h2=true:=by rcases e2 with ⟨_,_,e⟩|⟨_,_,e⟩<;>rw[e]<;>assumption
 refine⟨key l1,key h1,key l2,key h2,?_,?_,?_⟩
 ·rcases e1 with ⟨h,e,e'⟩|⟨h,e,e'⟩<;>rw[e,e']
  ·exact .inl ⟨h,rfl,rfl⟩
  ·exact .inr ⟨h,rfl,rfl⟩
 ·rcases e2 with ⟨h,e,e'⟩|⟨h,e,e'⟩<;>rw[e,e']
  ·exact .inl ⟨h,rfl,rfl⟩
  ·exact .inr ⟨h,rfl,rfl⟩
 ·have hF:(0<ordI l1 l2∧lnF a b c d=l1)∨(ordI l1 l2≤0∧lnF a b c d=l2):=by
   unfold lnF
   rw[←hl1,←hl2]
   split
   ·exact .inl ⟨by assumption,rfl⟩
   ·exact .inr ⟨by omega,rfl⟩
  have hT:(ordI h2 h1<0∧lnT a b c d=h2)∨(0≤ordI h2 h1∧lnT a b c d=h1):=by
   unfold lnT
   rw[←hh1,←hh2]
   split
   ·exact .inl ⟨by assumption,rfl⟩
   ·exact .inr ⟨by omega,rfl⟩
  have kF:=key_ord gl1 gl2
  have kT:=key_ord gh2 gh1
  have hl:=lineI_cases a b c d
  rcases hF with ⟨q1,f⟩|⟨q1,f⟩<;>rcases hT with ⟨q2,t⟩|⟨q2,t⟩<;>rw[f,t]at hl
  ·have:=key_ord gl1 gh2;omega
  ·have:=key_ord gl1 gh1;omega
  ·have:=key_ord gl2 gh2;omega
  ·have:=key_ord gl2 gh1;omega
theorem line_meet {a b c d:Pt} (ha:good a=true) (hb:good b=true) (hc:good c=true) (hd:good d=true) (h:cr a b c=0∧cr a b d=0∧cr c d a=0∧cr c d b=0):lineI a b c d=meetR a b c d:=by
 obtain⟨z1,z2,z3,z4⟩:=h
 have hpr:prB a b c d=false:=by
  rcases hp:prB a b c d with _|_
  ·rfl
  ·rw[prB_iff]at hp;omega
 have o1:=onP_key hc hd ha
 have o2:=onP_key hc hd hb
 have o3:=onP_key ha hb hc
 have o4:=onP_key ha hb hd
 rw[onP_eq hc hd ha,z3]at o1
 rw[onP_eq hc hd hb,z4]at o2
 rw[onP_eq ha hb hc,z1]at o3
 rw[onP_eq ha hb hd,z2]at o4
 simp only[true_and]at o1 o2 o3 o4
 obtain⟨lo1,hi1,lo2,hi2,f1,f2,f3⟩:=lineI_key ha hb hc hd
 have kab:=key_inj ha hb
 have kac:=key_inj ha hc
 have kad:=key_inj ha hd
 have kbc:=key_inj hb hc
 have kbd:=key_inj hb hd
 have kcd:=key_inj hc hd
 unfold meetR endsL
 rw[hpr]
 rcases q1:onB c d a with _|_<;>rcases q2:onB c d b with _|_<;>rcases q3:onB a b c with _|_<;>rcases q4:onB a b d with _|_
 all_goals
  rw[q1]at o1
  rw[q2]at o2
  rw[q3]at o3
  rw[q4]at o4
  simp only[Bool.false_eq_true,false_iff,true_iff]at o1 o2 o3 o4
  simp only[Bool.false_eq_true,if_false,if_true,List.nil_append,List.cons_append,difB,List.any_cons,List.any_nil,Bool.or_false,ne_eq,Bool.or_eq_true,decide_eq_true_eq,not_true,not_false_iff,reduceCtorEq]
  first
  |omega
  |(rw [eq_comm (a:=b),kab,eq_comm (a:=c),kac,eq_comm (a:=d),kad];split<;>omega)
  |(simp only[eq_comm (a:=b) (b:=a),eq_comm (a:=c) (b:=a),eq_comm (a:=d) (b:=a),eq_comm (a:=c) (b:=b),eq_comm (a:=d) (b:=b),eq_comm (a:=d) (b:=c),kab,kac,kad,kbc,kbd,kcd];split<;>omega)
theorem ze_iff (a b c d:Pt):zeB a b c d=true↔cr a b c=0∧cr a b d=0∧cr c d a=0∧cr c d b=0:=by
 unfold zeB
 rw[decide_eq_true_eq,sgn_eq,sgn_eq,sgn_eq,sgn_eq]
theorem dif_ze {a b c d:Pt} (h:difB (endsL a b c d)=true):zeB a b c d=true:=by
 obtain⟨p,q,hp,hq,hne⟩:=difB_two h
 obtain⟨h1,h2⟩:=endsL_mem hp
 obtain⟨h3,h4⟩:=endsL_mem hq
 rw[ze_iff]
 exact two_common hne h1 h3 h2 h4
theorem oe_ends {a b c d:Pt} (ha:good a=true) (hb:good b=true) (hc:good c=true) (hd:good d=true):oeB a b c d=true↔endsL a b c d≠[]:=by
 unfold oeB endsL
 rw[onP_eq ha hb hc,onP_eq ha hb hd,onP_eq hc hd ha,onP_eq hc hd hb]
 cases onB c d a<;>cases onB c d b<;>cases onB a b c<;>cases onB a b d<;>simp
theorem pr_ends {a b c d:Pt} (h:prB a b c d=true):endsL a b c d=[]:=by
 rw[prB_iff]at h
 rw[List.eq_nil_iff_forall_not_mem]
 intro e he
 unfold endsL at he
 simp only[List.mem_append]at he
 rcases he with he|he|he|he<;>split at he<;>simp at he<;>subst he
 all_goals
  rename_i q
  rw[onB_iff]at q
  omega
theorem meet_eq {a b c d:Pt} (ha:good a=true) (hb:good b=true) (hc:good c=true) (hd:good d=true):meetP a b c d=meetR a b c d:=by
 unfold meetP
 split
 ·rename_i h
  unfold meetR
  rw[ap_ends h,ap_pr h]
  simp[difB]
 ·split
  ·rename_i h
   exact line_meet ha hb hc hd ((ze_iff _ _ _ _).1 h)
  ·rename_i hz
   have hdif:difB (endsL a b c d)=false:=by
    rcases h:difB (endsL a b c d)with _|_
    ·rfl
    ·exact absurd (dif_ze h) hz
   have ho:=oe_ends ha hb hc hd
   unfold meetR
   rcases hp:prB a b c d with _|_
   ·by_cases h:oeB a b c d=true
    ·have:=ho.1 h
     simp[hdif,h,this]
    ·have h':endsL a b c d=[]:=by
      rcases h0:endsL a b c d with _|⟨e,l⟩
      ·rfl
      ·exact absurd (ho.2 (by rw[h0];simp)) h
     simp[h,h',difB]
   ·simp[pr_ends hp,difB]
theorem meetR_pos (a b c d:Pt):0<meetR a b c d↔endsL a b c d≠[]∨prB a b c d=true:=by
 unfold meetR
 split
 ·rename_i h
  obtain⟨p,q,hp,_,_⟩:=difB_two h
  refine⟨fun _=> .inl (fun e=>?_),fun _=>by omega⟩
  rw[e]at hp
  cases hp
 ·split
  ·rename_i h
   exact⟨fun _=> .inl h,fun _=>by omega⟩
  ·rename_i h
   split
   ·rename_i h'
    exact⟨fun _=> .inr h',fun _=>by omega⟩
   ·rename_i h'
    refine⟨fun q=>by omega,fun q=>?_⟩
    rcases q with q|q
    ·exact absurd q h
    ·exact absurd q h'
end Go.Proofs.YtpkeacnacjnlcaaGreat
namespace Go.Proofs.YtpkeacnacjnlcaaGreat
open Go.RowKit
theorem nan_any (x:Int) (w:World):
 Calls Tryz.prog 118 #[.int .i64 x] w fun e w'=>e= .returned (.bool false)∧w=w':=by
 have h:(x != x)=false:=by simp
 go_enter Tryz.func118,Tryz.ntmps118
 go_wp2_with fail
 go_ret
 exact⟨rfl,rfl⟩
theorem compare_any (x y:Int) (w:World):
 Calls Tryz.prog 73 #[.int .i64 x,.int .i64 y] w fun e w'=>e= .returned (.int .i64 (cmpI x y))∧w=w':=by
 have h3:(x<y∧cmpI x y= -1)∨(y<x∧cmpI x y=1)∨(x=y∧cmpI x y=0):=by unfold cmpI;split<;>(try split)<;>omega
 rcases h3 with ⟨h,e⟩|⟨h,e⟩|⟨h,e⟩
 all_goals
  rw[e]
  clear e
  try subst h
  go_enter Tryz.func73,Tryz.ntmps73
  go_wp2_with (go_at_call 118;refine(nan_any _ _).mono ?_;rintro e w' ⟨rfl,rfl⟩)
  go_ret
  exact⟨rfl,rfl⟩
theorem compare_still (x y:Int) (w:World):
 Calls Tryz.prog 73 #[.int .i64 x,.int .i64 y] w fun e w'=>e= .returned (.int .i64 (cmpI x y))∧w'=w:=
 (compare_any x y w).mono fun _ _ ⟨h1,h2⟩=>⟨h1,h2.symm⟩
/-- The first of two numbers that is not 0. -/
theorem or_any (x y:Int) (b o c:Nat) (w:World) (h0:w.cell? ⟨b,o,none⟩=some (.int .i64 x)) (h1:w.cell? ⟨b,o+1,none⟩=some (.int .i64 y)):
 Calls Tryz.prog 147 #[.slice (some ⟨b,o,none⟩) 2 c] w fun e w'=>e= .returned (.int .i64 (orI x y))∧w=w':=by
 go_enter Tryz.func147,Tryz.ntmps147
 go_wp2
 go_loop [8] (fun i=>∃k:Nat,k≤2∧i= .int .i64 (k:Int)∧Hid ((1≤k→x=0)∧(k=2→y=0))) (fun i=>2-(intOf i).toNat)
 case atStart=>exact⟨0,by omega,rfl,⟨fun h=>absurd h (by omega),fun h=>absurd h (by omega)⟩⟩
 case round=>
  obtain⟨k,hk,rfl,HK⟩:=hrel
  have h3:k=0∨k=1∨k=2:=by omega
  rcases h3 with rfl|rfl|rfl
  ·by_cases hx:x=0
   ·subst hx
    go_wp2
    go_round
    case rel=>exact⟨1,by omega,rfl,by show _∧_;simp⟩
    case measure=>simp[intOf]
   ·have hx':(x != 0)=true:=by simpa using hx
    have HE:Hid (orI x y=x):=by show _=_;unfold orI;rw[if_pos hx]
    clear hx
    go_wp2
    go_ret
    exact⟨by rw[HE.out];rfl,rfl⟩
  ·have hx:=HK.out.1 (by omega)
   subst hx
   by_cases hy:y=0
   ·subst hy
    go_wp2
    go_round
    case rel=>exact⟨2,by omega,rfl,by show _∧_;simp⟩
    case measure=>simp[intOf]
   ·have hy':(y != 0)=true:=by simpa using hy
    clear hy
    go_wp2
    go_ret
    exact⟨rfl,rfl⟩
  ·have hx:=HK.out.1 (by omega)
   have hy:=HK.out.2 rfl
   subst hx hy
   go_wp2
   go_ret
   exact⟨rfl,rfl⟩
set_option maxRecDepth 100000 in
set_option maxHeartbeats 400000 in
theorem order_any (a b:Pt) (w:World):
 Calls Tryz.prog 113 #[ptV a,ptV b] w fun e w'=>e= .returned (.int .i64 (ordI a b))∧Below w.heap.size w w':=by
 have hA:=(HasPt.new w a 23).alloc (.cells #[.int .i64 b.x,.int .i64 b.y] 23)
 have hC:=HasPt.new (w.alloc (.cells #[.int .i64 a.x,.int .i64 a.y] 23)) b 23
 rw[World.size_alloc]at hC
 have hB:Below w.heap.size w ((w.alloc (.cells #[.int .i64 a.x,.int .i64 a.y] 23)).alloc (.cells #[.int .i64 b.x,.int .i64 b.y] 23)):=((Below.refl _ _).alloc (Nat.le_refl _) _).alloc (by simp) _
 unfold ptV ordI
 go_enter Tryz.func113,Tryz.ntmps113
 go_wp2
 obtain⟨W0,hW0⟩:∃W0,W0=(w.alloc (.cells #[.int .i64 a.x,.int .i64 a.y] 23)).alloc (.cells #[.int .i64 b.x,.int .i64 b.y] 23):=⟨_,rfl⟩
 rw[←hW0]at hA hC hB ⊢
 clear hW0
 refine wp_region_still_tail 10 (by kernel_rfl) (by kernel_rfl) ?_
 change wpStill _ _ W0.drew _ _ _
 obtain⟨hax,hay,haz⟩:=hA
 obtain⟨hbx,hby,hbz⟩:=hC
 simp only[List.take_succ_cons,List.take_zero,List.drop_succ_cons,List.drop_zero]
 repeat (first|still_step|still_call (compare_still _ _ _))
 try refine wpStill_nil ?_
 change wpList _ _ _ _ _ W0.drew
 have hB:=hB.drew
 generalize W0.drew=W1 at *
 clear hax hay haz hbx hby hbz
 go_wp2_with fail
 refine(or_any (cmpI a.x b.x) (cmpI a.y b.y) W1.heap.size 0 _ _ (by simp) (by simp)).mono ?_
 rintro e w' ⟨rfl,rfl⟩
 go_wp2
 go_ret
 exact⟨rfl,hB.alloc hB.size _⟩
theorem cross_any (a b c:Pt) (w:World) (ha:good a=true) (hb:good b=true) (hc:good c=true):
 Calls Tryz.prog 207 #[ptV a,ptV b,ptV c] w fun e w'=>e= .returned (.int .i64 (cr a b c))∧Below w.heap.size w w':=by
 have HC:=Lib.hid (cr_bd ha hb hc)
 have HP:=Lib.hid (cr_parts ha hb hc)
 rw[good_iff]at ha hb hc
 obtain⟨a1,a2,a3,a4⟩:=ha
 obtain⟨b1,b2,b3,b4⟩:=hb
 obtain⟨c1,c2,c3,c4⟩:=hc
 unfold ptV
 go_enter Tryz.func207,Tryz.ntmps207
 go_wp2
 go_ret
 refine⟨?_,(((Below.refl _ _).alloc (Nat.le_refl _) _).alloc (by simp) _).alloc (by simp;omega) _⟩
 show Ending.returned (.int .i64 (wrap64 (wrap64 ((b.x-a.x)*(c.y-a.y))-wrap64 ((b.y-a.y)*(c.x-a.x)))))=_
 have h1:=HC.out
 have h2:=HP.out
 unfold cr at h1 ⊢
 congr 2
 unfold wrap64
 omega
theorem turn_any (a b c:Pt) (w:World) (ha:good a=true) (hb:good b=true) (hc:good c=true):
 Calls Tryz.prog 188 #[ptV a,ptV b,ptV c] w fun e w'=>e= .returned (.int .i64 (sgn (cr a b c)))∧Below w.heap.size w w':=by
 have H:=Lib.hid (And.intro ha (And.intro hb hc))
 clear ha hb hc
 unfold ptV
 go_enter Tryz.func188,Tryz.ntmps188
 go_wp2_with fail
 refine(cross_any a b c _ H.out.1 H.out.2.1 H.out.2.2).mono ?_
 rintro e w1 ⟨rfl,hb1⟩
 have hB:=((((Below.refl w.heap.size w).alloc (Nat.le_refl _) _).alloc (by simp) _).alloc (by simp;omega) _).trans (hb1.mono (by simp;omega))
 clear hb1
 go_wp2_with fail
 refine(compare_any _ _ _).mono ?_
 rintro e w2 ⟨rfl,rfl⟩
 go_wp2
 go_ret
 exact⟨rfl,hB⟩
set_option maxHeartbeats 400000 in
theorem ends_any (a b:Pt) (w:World):
 Calls Tryz.prog 187 #[ptV a,ptV b] w fun e w'=>e= .returned (.tuple #[ptV (endA a b),ptV (endB a b)])∧Below w.heap.size w w':=by
 have hcase:(0<ordI a b∧endA a b=b∧endB a b=a)∨(¬0<ordI a b∧endA a b=a∧endB a b=b):=by
  unfold endA endB
  by_cases h:0<ordI a b
  ·left;exact⟨h,if_pos h,if_pos h⟩
  ·right;exact⟨h,if_neg h,if_neg h⟩
 rcases hcase with ⟨h,e1,e2⟩|⟨h,e1,e2⟩
 all_goals
  rw[e1,e2]
  clear e1 e2
  unfold ptV
  go_enter Tryz.func187,Tryz.ntmps187
  go_wp2_with fail
  refine(order_any a b _).mono ?_
  rintro e w1 ⟨rfl,hb1⟩
  obtain⟨hc,hf⟩:=bcell hb1
  have hz:=hb1.size
  simp only[World.size_alloc]at hz
  have hB:=(((((Below.refl w.heap.size w).alloc (Nat.le_refl _) _).alloc (by simp) _).alloc (by simp;omega) _).alloc (by simp;omega) _).trans (hb1.mono (by simp;omega))
  clear hb1
  go_wp2
  go_region
  go_wp2
 ·refine bodyPost_ret (v:= .tuple #[.agg #[.int .i64 b.x,.int .i64 b.y],.agg #[.int .i64 a.x,.int .i64 a.y]]) (by simp[results,Tryz.results187,go_sem,hc]) rfl ⟨rfl,?_⟩
  exact((((hB.setCell (p:=⟨w.heap.size+1+1,0,none⟩) (by simp;omega) _).setCell (p:=⟨w.heap.size+1+1,1,none⟩) (by simp;omega) _).setCell (p:=⟨w.heap.size+1+1+1,0,none⟩) (by simp;omega) _).setCell (p:=⟨w.heap.size+1+1+1,1,none⟩) (by simp;omega) _).drew
 ·refine bodyPost_ret (v:= .tuple #[.agg #[.int .i64 a.x,.int .i64 a.y],.agg #[.int .i64 b.x,.int .i64 b.y]]) (by simp[results,Tryz.results187,go_sem,hc]) rfl ⟨rfl,?_⟩
  exact((((hB.setCell (p:=⟨w.heap.size+1+1,0,none⟩) (by simp;omega) _).setCell (p:=⟨w.heap.size+1+1,1,none⟩) (by simp;omega) _).setCell (p:=⟨w.heap.size+1+1+1,0,none⟩) (by simp;omega) _).setCell (p:=⟨w.heap.size+1+1+1,1,none⟩) (by simp;omega) _).drew
/-- Three points just boxed. -/
theorem three_new (w:World) (a b c:Pt) (e:TypeId):
 HasPt (((w.alloc (.cells #[.int .i64 a.x,.int .i64 a.y] e)).alloc (.cells #[.int .i64 b.x,.int .i64 b.y] e)).alloc (.cells #[.int .i64 c.x,.int .i64 c.y] e)) w.heap.size a∧
 HasPt (((w.alloc (.cells #[.int .i64 a.x,.int .i64 a.y] e)).alloc (.cells #[.int .i64 b.x,.int .i64 b.y] e)).alloc (.cells #[.int .i64 c.x,.int .i64 c.y] e)) (w.heap.size+1) b∧
 HasPt (((w.alloc (.cells #[.int .i64 a.x,.int .i64 a.y] e)).alloc (.cells #[.int .i64 b.x,.int .i64 b.y] e)).alloc (.cells #[.int .i64 c.x,.int .i64 c.y] e)) (w.heap.size+1+1) c∧
 Below w.heap.size w (((w.alloc (.cells #[.int .i64 a.x,.int .i64 a.y] e)).alloc (.cells #[.int .i64 b.x,.int .i64 b.y] e)).alloc (.cells #[.int .i64 c.x,.int .i64 c.y] e)):=by
 have h1:=((HasPt.new w a e).alloc (.cells #[.int .i64 b.x,.int .i64 b.y] e)).alloc (.cells #[.int .i64 c.x,.int .i64 c.y] e)
 have h2:=(HasPt.new (w.alloc (.cells #[.int .i64 a.x,.int .i64 a.y] e)) b e).alloc (.cells #[.int .i64 c.x,.int .i64 c.y] e)
 have h3:=HasPt.new ((w.alloc (.cells #[.int .i64 a.x,.int .i64 a.y] e)).alloc (.cells #[.int .i64 b.x,.int .i64 b.y] e)) c e
 simp only[World.size_alloc]at h2 h3
 exact⟨h1,h2,h3,(((Below.refl _ _).alloc (Nat.le_refl _) _).alloc (by simp) _).alloc (by simp;omega) _⟩
theorem two_new (w:World) (a b:Pt) (e:TypeId):
 HasPt ((w.alloc (.cells #[.int .i64 a.x,.int .i64 a.y] e)).alloc (.cells #[.int .i64 b.x,.int .i64 b.y] e)) w.heap.size a∧
 HasPt ((w.alloc (.cells #[.int .i64 a.x,.int .i64 a.y] e)).alloc (.cells #[.int .i64 b.x,.int .i64 b.y] e)) (w.heap.size+1) b∧
 Below w.heap.size w ((w.alloc (.cells #[.int .i64 a.x,.int .i64 a.y] e)).alloc (.cells #[.int .i64 b.x,.int .i64 b.y] e)):=by
 have h1:=(HasPt.new w a e).alloc (.cells #[.int .i64 b.x,.int .i64 b.y] e)
 have h2:=HasPt.new (w.alloc (.cells #[.int .i64 a.x,.int .i64 a.y] e)) b e
 simp only[World.size_alloc]at h2
 exact⟨h1,h2,((Below.refl _ _).alloc (Nat.le_refl _) _).alloc (by simp) _⟩
set_option maxHeartbeats 800000 in
theorem on_any (a b p:Pt) (w:World) (ha:good a=true) (hb:good b=true) (hp:good p=true):
 Calls Tryz.prog 158 #[ptV a,ptV b,ptV p] w fun e w'=>e= .returned (.bool (onP a b p))∧Below w.heap.size w w':=by
 have H:=Lib.hid (And.intro ha (And.intro hb hp))
 clear ha hb hp
 have hcase:=onP_cases a b p
 obtain⟨r,hr⟩:∃r,r=onP a b p:=⟨_,rfl⟩
 rw[←hr]at hcase
 rw[←hr]
 clear hr
 obtain⟨hA,hC,hP,hB⟩:=three_new w a b p 23
 unfold ptV
 go_enter Tryz.func158,Tryz.ntmps158
 go_wp2_with fail
 refine(ends_any a b _).mono ?_
 rintro e w1 ⟨rfl,hb1⟩
 have hA1:=hA.on hb1
 have hC1:=hC.on hb1
 have hP1:=hP.on hb1
 have hB1:=hB.trans (hb1.mono hB.size)
 obtain⟨low,hlow⟩:∃q,q=endA a b:=⟨_,rfl⟩
 obtain⟨high,hhigh⟩:∃q,q=endB a b:=⟨_,rfl⟩
 rw[←hlow,←hhigh]at hcase ⊢
 have HQ:=Lib.hid (And.intro hlow hhigh)
 have HK:=Lib.hid hcase
 clear hb1 hA hC hP hB hlow hhigh hcase
 obtain⟨kL,kH,kB⟩:=two_new w1 low high 23
 have kA:=(hA1.alloc (.cells #[.int .i64 low.x,.int .i64 low.y] 23)).alloc (.cells #[.int .i64 high.x,.int .i64 high.y] 23)
 have kC:=(hC1.alloc (.cells #[.int .i64 low.x,.int .i64 low.y] 23)).alloc (.cells #[.int .i64 high.x,.int .i64 high.y] 23)
 have kP:=(hP1.alloc (.cells #[.int .i64 low.x,.int .i64 low.y] 23)).alloc (.cells #[.int .i64 high.x,.int .i64 high.y] 23)
 have kB:=hB1.trans (kB.mono hB1.size)
 clear hA1 hC1 hP1 hB1
 obtain⟨a1,a2,a3⟩:=kA
 obtain⟨c1,c2,c3⟩:=kC
 obtain⟨p1,p2,p3⟩:=kP
 unfold ptV
 go_wp2_with fail
 refine(turn_any a b p _ H.out.1 H.out.2.1 H.out.2.2).mono ?_
 rintro e w2 ⟨rfl,hb2⟩
 have hL2:=kL.on hb2
 have hH2:=kH.on hb2
 have hP2:=HasPt.on ⟨p1,p2,p3⟩ hb2
 have hB2:=below_on kB (Nat.le_refl _) hb2
 clear hb2 kL kH kB a1 a2 a3 c1 c2 c3 p1 p2 p3
 obtain⟨t,ht⟩:∃t,t=sgn (cr a b p):=⟨_,rfl⟩
 have hcase:=HK.out
 rw[←ht]at hcase
 rw[←ht]
 obtain⟨l1,l2,l3⟩:=hL2
 obtain⟨h1,h2,h3⟩:=hH2
 obtain⟨p1,p2,p3⟩:=hP2
 have HT:=Lib.hid ht
 clear ht HK
 rcases hcase with ⟨g,rfl⟩|⟨rfl,g,rfl⟩|⟨rfl,g,g',rfl⟩|⟨rfl,g,g',rfl⟩
 ·have g2:(t==0)=false:=by simpa using g
  clear g
  go_wp2
  go_ret
  exact⟨rfl,hB2⟩
 ·have G:=Lib.hid g
  clear g
  go_wp2_with fail
  refine(order_any low p _).mono ?_
  rintro e w3 ⟨rfl,hb3⟩
  have hB3:=below_on hB2 (Nat.le_refl _) hb3
  have g:=G.out
  clear hb3 l1 l2 l3 h1 h2 h3 p1 p2 p3
  go_wp2
  go_ret
  exact⟨rfl,hB3⟩
 ·have G:=Lib.hid (And.intro g g')
  clear g g'
  go_wp2_with fail
  refine(order_any low p _).mono ?_
  rintro e w3 ⟨rfl,hb3⟩
  obtain⟨h1,h2,h3⟩:=HasPt.on ⟨h1,h2,h3⟩ hb3
  obtain⟨p1,p2,p3⟩:=HasPt.on ⟨p1,p2,p3⟩ hb3
  have hB3:=below_on hB2 (Nat.le_refl _) hb3
  have g:=G.out.1
  clear hb3
  go_wp2_with fail
  refine(order_any p high _).mono ?_
  rintro e w4 ⟨rfl,hb4⟩
  have hB4:=below_on hB3 (Nat.le_refl _) hb4
  have g':=G.out.2
  clear hb4 h1 h2 h3 p1 p2 p3
  go_wp2
  go_ret
  exact⟨by show Ending.returned (.bool (decide (ordI p high≤0)))=_;rw[decide_eq_false (by omega)],hB4⟩
 ·have G:=Lib.hid (And.intro g g')
  clear g g'
  go_wp2_with fail
  refine(order_any low p _).mono ?_
  rintro e w3 ⟨rfl,hb3⟩
  obtain⟨h1,h2,h3⟩:=HasPt.on ⟨h1,h2,h3⟩ hb3
  obtain⟨p1,p2,p3⟩:=HasPt.on ⟨p1,p2,p3⟩ hb3
  have hB3:=below_on hB2 (Nat.le_refl _) hb3
  have g:=G.out.1
  clear hb3
  go_wp2_with fail
  refine(order_any p high _).mono ?_
  rintro e w4 ⟨rfl,hb4⟩
  have hB4:=below_on hB3 (Nat.le_refl _) hb4
  have g':=G.out.2
  clear hb4 h1 h2 h3 p1 p2 p3
  go_wp2
  go_ret
  exact⟨rfl,hB4⟩
end Go.Proofs.YtpkeacnacjnlcaaGreat
namespace Go.Proofs.YtpkeacnacjnlcaaGreat
/-- One of a stretch's points lies within, and the first such one is its begin, or on a border. -/
def HitE (ax ay bx b_y lx ly hx hy:Int):Prop:=
 ∃N t:Int,0<N∧0≤t∧t≤N∧(N*lx≤(N-t)*ax+t*bx∧(N-t)*ax+t*bx≤N*hx∧N*ly≤(N-t)*ay+t*b_y∧(N-t)*ay+t*b_y≤N*hy)∧
  (t=0∨(N-t)*ax+t*bx=N*lx∨(N-t)*ax+t*bx=N*hx∨(N-t)*ay+t*b_y=N*ly∨(N-t)*ay+t*b_y=N*hy)
theorem lb {ax ay bx b_y lx ly hx hy:Int} (hdx:ax≤bx) (hdy:ay≤b_y) (h1:lx≤hx) (h2:ly≤hy) (b1:lx≤bx) (b2:ax≤hx) (b3:ly≤b_y) (b4:ay≤hy)
 (c1:0≤(bx-ax)*(hy-ay)-(b_y-ay)*(lx-ax)) (c2:(bx-ax)*(ly-ay)-(b_y-ay)*(hx-ax)≤0):HitE ax ay bx b_y lx ly hx hy:=by
 by_cases q1:lx≤ax
 ·by_cases q2:ly≤ay
  ·exact⟨1,0,by omega,by omega,by omega,⟨by omega,by omega,by omega,by omega⟩,.inl rfl⟩
  ·have m1:=Int.mul_nonneg (by omega:0≤b_y-ay) (by omega:0≤ax-lx)
   have m2:=Int.mul_nonneg (by omega:0≤ly-ay) (by omega:0≤bx-ax)
   have m3:=Int.mul_nonneg (by omega:0≤b_y-ay) (by omega:0≤hy-ly)
   exact⟨b_y-ay,ly-ay,by omega,by omega,by omega,⟨by grind,by grind,by grind,by grind⟩,.inr (.inr (.inr (.inl (by grind))))⟩
 ·by_cases q2:ly≤ay∨(ly-ay)*(bx-ax)≤(lx-ax)*(b_y-ay)
  ·have m1:=Int.mul_nonneg (by omega:0≤lx-ax) (by omega:0≤b_y-ay)
   have m3:=Int.mul_nonneg (by omega:0≤bx-ax) (by omega:0≤hx-lx)
   refine⟨bx-ax,lx-ax,by omega,by omega,by omega,⟨by grind,by grind,?_,by grind⟩,.inr (.inl (by grind))⟩
   rcases q2 with q2|q2
   ·have m2:=Int.mul_nonneg (by omega:0≤bx-ax) (by omega:0≤ay-ly)
    grind
   ·grind
  ·have q3:ay<ly:=by omega
   have q4:(lx-ax)*(b_y-ay)<(ly-ay)*(bx-ax):=by omega
   have m3:=Int.mul_nonneg (by omega:0≤b_y-ay) (by omega:0≤hy-ly)
   exact⟨b_y-ay,ly-ay,by omega,by omega,by omega,⟨by grind,by grind,by grind,by grind⟩,.inr (.inr (.inr (.inl (by grind))))⟩
/-- Have two stretches a point in common? -/
def Touch (a b c d:Pt):Prop:=onB c d a=true∨onB c d b=true∨onB a b c=true∨onB a b d=true∨prB a b c d=true
theorem onB_swap (a b p:Pt):onB a b p=onB b a p:=by
 rw[Bool.eq_iff_iff,onB_iff,onB_iff]
 have e:cr b a p= - cr a b p:=by unfold cr;grind
 rw[e]
 omega
theorem cr_swapT (a b p:Pt):cr b a p= - cr a b p:=by unfold cr;grind
theorem mul_lt {N x y:Int} (hN:0<N):N*x<N*y↔x<y:=by
 constructor
 ·intro h
  have:=le_of_mul hN (by omega:N*x≤N*y)
  by_cases e:x=y
  ·subst e;omega
  ·omega
 ·intro h
  exact Int.mul_lt_mul_of_pos_left h hN
theorem mul_eq {N x y:Int} (hN:0<N):N*x=N*y↔x=y:=⟨fun h=>Int.eq_of_mul_eq_mul_left (by omega) h,fun h=>by rw[h]⟩
theorem pos_sgn {N x y:Int} (hN:0<N) (h:N*x=y):(0<x↔0<y)∧(x<0↔y<0)∧(x=0↔y=0):=by
 have h1:=mul_lt (x:=0) (y:=x) hN
 have h2:=mul_lt (x:=x) (y:=0) hN
 have h3:=mul_eq (x:=x) (y:=0) hN
 rw[Int.mul_zero]at h1 h2 h3
 rw[h]at h1 h2 h3
 exact⟨h1.symm,h2.symm,h3.symm⟩
end Go.Proofs.YtpkeacnacjnlcaaGreat
