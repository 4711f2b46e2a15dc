/- What lies beside PtW; ring.Edges: the iterator's contract: for every loop body that keeps the ring; wide.Of, wide.Add: the walks. -/
import Derived.IntWalk
import Derived.LoopIn
import Derived.LoopNIn
import Derived.Outline
import Derived.OwnWalkIn
import Derived.RangeFuncBound
import Derived.RangeFuncCalls
import Derived.RangeFuncLeaves
import Derived.RangeFuncNested
import Derived.Shelf.Abstract
import Derived.Shelf.RegionOpen
import Derived.Stop.RegionWithIn
import Derived.TacticsInMore
import Derived.Laws.Externs
import Derived.Test.YtpkeacnacjnlcaaGreatK01
namespace Go.Proofs.YtpkeacnacjnlcaaGreat
open Go.RowKit
section
variable {w w':World} {B B' size n:Nat} {A:Option Addr} {xs:List Value}
end
section
variable {w w':World} {g:Nat} {t:TypeId} {cs:Array Value}
end
section
variable {P:Program} (w:World)
end
theorem ofInt_i64 (a:Nat) (ha:a<9223372036854775808):(BitVec.ofInt 64 (a:Int)).toNat=a:=by
 rw[BitVec.ofInt_natCast,BitVec.toNat_ofNat];exact Nat.mod_eq_of_lt (by omega)
theorem i64_or_nat (a b:Nat) (ha:a<9223372036854775808) (hb:b<9223372036854775808):bits .or .i64 (a:Int) (b:Int)=((a ||| b:Nat):Int):=by
 have hx:a ||| b<2^63:=Nat.or_lt_two_pow (by omega) (by omega)
 show IntKind.i64.wrap ((BitVec.ofInt 64 (a:Int) ||| BitVec.ofInt 64 (b:Int)).toNat:Int)=_
 rw[BitVec.toNat_or,ofInt_i64 a ha,ofInt_i64 b hb,IntKind.wrap_i64]
 omega
end Go.Proofs.YtpkeacnacjnlcaaGreat
namespace Go.Proofs.YtpkeacnacjnlcaaGreat
open Go.RowKit
def winV (w:Win):Value:= .agg #[.int .i64 w.lx,.int .i64 w.ly,.int .i64 w.hx,.int .i64 w.hy]
def winE (w:Win):Int:=if goodL [w.low,w.high]=true then(if w.hx<w.lx∨w.hy<w.ly then 1 else 0)else 3
theorem reads_two (W:World) (a b c d:Int) (e:TypeId) (k:Nat) (hk:k=W.heap.size):Reads (W.alloc (.cells #[.int .i64 a,.int .i64 b,.int .i64 c,.int .i64 d] e)) (W.alloc (.cells #[.int .i64 a,.int .i64 b,.int .i64 c,.int .i64 d] e)).heap.size 2 (some ⟨k,0,none⟩) 2 (ptsV [⟨a,b⟩,⟨c,d⟩]):=by
 subst hk
 exact Reads.made W _ _ _ 2 2 _ rfl rfl
end Go.Proofs.YtpkeacnacjnlcaaGreat
namespace Go.Proofs.YtpkeacnacjnlcaaGreat
open Go.RowKit Go.WideShapes Go.ChangeShapes Go.Deep
section
variable {H:Type} {enc:TypeId×Value→H} {P:Program} {w:World} {base:Nat} {spare:Nat→Bool} {held:Bool}
end
section
variable {H:Type} {enc:TypeId×Value→H} {P:Program}
end
end Go.Proofs.YtpkeacnacjnlcaaGreat
namespace Go.Proofs.YtpkeacnacjnlcaaGreat
open Go.RowKit Go.WideShapes Go.ChangeShapes Go.Deep Go.ChangeAt
section
variable {H:Type} {enc:TypeId×Value→H} {P:Program}
end
end Go.Proofs.YtpkeacnacjnlcaaGreat
namespace Go.Proofs.YtpkeacnacjnlcaaGreat
open Go.RowKit Go.WideShapes Go.ChangeShapes Go.Deep Go.ChangeAt Go.Joins
section
variable {H:Type} {enc:TypeId×Value→H}
end
end Go.Proofs.YtpkeacnacjnlcaaGreat
namespace Go.Proofs.YtpkeacnacjnlcaaGreat
open Go.RowKit Go.WideShapes Go.ChangeShapes Go.Deep Go.ChangeAt Go.Joins
section
variable {H:Type} {enc:TypeId×Value→H}
end
end Go.Proofs.YtpkeacnacjnlcaaGreat
namespace Go.Proofs.YtpkeacnacjnlcaaGreat
open Go.RowKit Go.WideShapes Go.ChangeShapes Go.Deep Go.ChangeAt Go.Joins
section
variable {H:Type} {enc:TypeId×Value→H}
end
end Go.Proofs.YtpkeacnacjnlcaaGreat
namespace Go.Proofs.YtpkeacnacjnlcaaGreat
open Go.RowKit Go.Shelf
attribute [local go_sem] Oper.semAt_some
/-- What the iterator asks of a round that goes on: all below B is as it was, and so is the block of its own. -/
def KeepE (B Bs:Nat) (W W':World):Prop:=W.heap.size≤W'.heap.size∧∀i,i<B∨i=Bs→W'.heap[i]?=W.heap[i]?
theorem KeepE.refl (B Bs:Nat) (W:World):KeepE B Bs W W:=⟨Nat.le_refl _,fun _ _=>rfl⟩
theorem KeepE.trans {B Bs:Nat} {W W' W'':World} (h:KeepE B Bs W W') (k:KeepE B Bs W' W''):KeepE B Bs W W'':=⟨Nat.le_trans h.1 k.1,fun i hi=>(k.2 i hi).trans (h.2 i hi)⟩
theorem KeepE.cell {B Bs:Nat} {W W':World} (h:KeepE B Bs W W') {p:Addr} (hp:p.block<B∨p.block=Bs):W'.cell? p=W.cell? p:=World.cell?_of_block (h.2 p.block hp)
theorem KeepE.reads {B Bs n:Nat} {W W':World} {A:Option Addr} {xs:List Value} {sz:Nat} (h:KeepE B Bs W W') (hr:Reads W B sz A n xs):Reads W' B sz A n xs:=hr.keep fun _ hp=>h.cell (.inl hp)
theorem KeepE.alloc {B Bs:Nat} {W:World} (hB:B≤W.heap.size) (hs:Bs<W.heap.size) (o:Obj):KeepE B Bs W (W.alloc o):=⟨by simp,fun i hi=>Below.heap_alloc W o i (by omega)⟩
theorem KeepE.drew {B Bs:Nat} {W W':World} (h:KeepE B Bs W W'):KeepE B Bs W W'.drew:=h
/-- What leaves all older blocks as they were keeps these. -/
theorem KeepE.below {B Bs:Nat} {W W':World} (hb:Below W.heap.size W W') (hB:B≤W.heap.size) (hs:Bs<W.heap.size):KeepE B Bs W W':=⟨hb.size,fun i hi=>hb.block i (by omega)⟩
theorem cell_lt' {W:World} {a:Addr} {v:Value} (h:W.cell? a=some v):a.block<W.heap.size:=by
 rcases Nat.lt_or_ge a.block W.heap.size with hlt|hge
 ·exact hlt
 ·unfold World.cell? at h
  rw[Array.getElem?_eq_none hge]at h
  cases h
theorem wpIn_named {F:Fence} {n:Nat} {P:Program} {c:Code} {Q:Exit→Act→World→Prop} {a:Act} {w:World} (h:∀W,W=w→c.wpIn F n P Q a W):c.wpIn F n P Q a w:=h w rfl
/-- The corner of a number (0, 0 where there is none), and the edge from it. -/
def ptAt (xs:List Pt) (k:Nat):Pt:=xs[k]?.getD ⟨0,0⟩
def edgeV (a b:Pt):Value:= .agg #[.int .i64 a.x,.int .i64 a.y,.int .i64 b.x,.int .i64 b.y]
def edgeAt (xs:List Pt) (k:Nat):Array Value:=#[.int .i64 (k:Int),edgeV (ptAt xs k) (ptAt xs ((k+1)%xs.length))]
theorem ptAt_lt {xs:List Pt} {k:Nat} (h:k<xs.length):ptAt xs k=xs[k]:=by simp[ptAt,h]
set_option maxRecDepth 100000 in
set_option maxHeartbeats 6400000 in
theorem edges1_in (n:Nat) (hn:1≤n) (l B Bs cap:Nat) (A:Option Addr) (len:Nat) (xs:List Pt) (hlen:len≤4611686018427387904) (J Jx:List Nat→World→Prop)
 (W:World) (hJ:AbidesFrom W.heap.size J)
 (hY:∀x W1,x<len→J (List.range x) W1→YieldAt Fence.wide (n-1) Tryz.prog l (edgeAt xs x) W1 fun e W'=>
   (e= .returned (.bool true)∧J (List.range x++[x]) W'∧KeepE B Bs W1 W')∨(e= .returned (.bool false)∧Jx (List.range x++[x]) W'))
 (hBs:W.cell? ⟨Bs,0,none⟩=some (.slice A len cap)) (hr:Reads W B 2 A len (ptsV xs)) (hBW:B≤W.heap.size) (h0:J [] W):
 CallsIn Fence.wide n Tryz.prog 153 #[.func (.yield l) #[] #[],.pointer (some ⟨Bs,0,none⟩)] W fun e W'=>(∃v,e= .returned v)∧
  ((∃ys,ys=List.range len∧J ys W')∨(∃pre,(∃k,k≤len∧pre=List.range k)∧Jx pre W')):=by
 refine callsIn_of_wp Tryz.func153 rfl trivial ?_ rfl
 simp only[Tryz.ntmps153,List.size_toArray,List.length_cons,List.length_nil,Nat.reduceAdd,Nat.reduceSub,Array.replicate_succ,Array.replicate_zero,List.push_toArray,List.append_toArray,List.nil_append,List.cons_append]
 gi_wp2
 gi_loopw [7] (fun i wr=>∃k:Nat,k≤len∧i= .int .i64 k∧J (List.range k) wr∧KeepE B Bs W wr) (fun i _=>len-(intOf i).toNat)
 case atStart=>exact⟨0,Nat.zero_le _,rfl,h0,KeepE.refl _ _ _⟩
 case round=>
  obtain⟨k,hk,rfl,hJs,hkp⟩:=hrel
  have hsz:=hkp.1
  by_cases hlt:k<len
  ·have hbs:Bs<W.heap.size:=cell_lt' hBs
   obtain⟨ad,rfl,hbd,hkl,hcx,hcy⟩:=(hkp.reads hr).pt hlt
   have hln:xs.length=len:=hr.lenPt
   obtain⟨m,hm⟩:∃m,m=(k+1)%len:=⟨_,rfl⟩
   have hml:m<len:=by rw[hm];exact Nat.mod_lt _ (by omega)
   have hmi:((k:Int)+1).tmod (len:Int)=(m:Int):=by
    rw[hm,Int.tmod_eq_emod_of_nonneg (by omega),Int.natCast_emod]
    rfl
   obtain⟨p,hp⟩:∃p,p=ptAt xs k:=⟨_,rfl⟩
   obtain⟨q,hq⟩:∃q,q=ptAt xs m:=⟨_,rfl⟩
   have hpk:xs[k]=p:=by rw[hp,ptAt_lt hkl]
   have hed:edgeAt xs k=#[.int .i64 (k:Int),.agg #[.int .i64 p.x,.int .i64 p.y,.int .i64 q.x,.int .i64 q.y]]:=by
    unfold edgeAt edgeV
    rw[hln,←hm,←hp,←hq]
   rw[hpk]at hcx hcy
   have HP:=Lib.hid (And.intro hp (And.intro hq (And.intro hpk (And.intro hm hln))))
   have HE:=Lib.hid hed
   have HR:=Lib.hid hr
   clear hp hq hpk hm hln hed hr
   gi_wp2
   refine wpIn_named fun W2 hW2=>?_
   have hk2:KeepE B Bs W W2:=by rw[hW2];exact hkp.trans (KeepE.alloc (by omega) (by omega) _)
   have hs2:wr.heap.size<W2.heap.size:=by rw[hW2];simp
   have hJ2:J (List.range k) W2:=by
    rw[hW2]
    exact hJ _ _ _ none hJs (World.grownBy_alloc wr _ none) (fun r e=>by cases e)
   have hJ3:J (List.range k) W2.drew:=hJ _ _ _ none hJ2 (only_drew (World.grownBy.refl W2 none)) (fun r e=>by cases e)
   have hpx:W2.cell? ⟨wr.heap.size,0,none⟩=some (.int .i64 p.x):=by rw[hW2];simp
   have hpy:W2.cell? ⟨wr.heap.size,1,none⟩=some (.int .i64 p.y):=by rw[hW2];simp
   have hb2:W2.cell? ⟨Bs,0,none⟩=some (.slice (some ad) len cap):=(hk2.cell (.inr rfl)).trans hBs
   obtain⟨ad',e',_,hml',hqx,hqy⟩:=(hk2.reads HR.out).pt hml
   obtain rfl:ad=ad':=by simpa using e'
   rw[←ptAt_lt hml',←HP.out.2.1]at hqx hqy
   have hw1:IntKind.i64.wrap ((k:Int)+1)=(k:Int)+1:=IntWalk.i64_in _ (by omega)
   have hmb:(m:Int)<(len:Int):=by omega
   have hY2:=hY k W2.drew hlt hJ3
   rw[HE.out]at hY2
   obtain⟨fn,tmps,assign,body,hy,hR⟩:=hY2
   have hR2:RoundIn Fence.wide (n-1) Tryz.prog l fn tmps assign body W2.drew (fun e W'=>∃bb,e= .returned (.bool bb)∧Hid ((bb=true∧J (List.range k++[k]) W'∧KeepE B Bs W2.drew W')∨(bb=false∧Jx (List.range k++[k]) W'))):=by
    refine hR.mono ?_
    rintro e W' (⟨h1,h2,h3⟩|⟨h1,h2⟩)
    ·exact⟨true,h1,.inl ⟨rfl,h2,h3⟩⟩
    ·exact⟨false,h1,.inr ⟨rfl,h2⟩⟩
   clear hW2 e' hml' hJ2 hJ3 hR hkp hJs hcx hcy
   gi_region_with (refine hR2.mono ?_;rintro e W3 ⟨bb,rfl,hres⟩)
   all_goals
    rcases bb with _|_
    ·gi_wp2
     refine bodyPost_ret (results_none rfl _ _ _) rfl ?_
     rcases hres.out with ⟨h1,_⟩|⟨_,h2⟩
     ·cases h1
     ·exact⟨⟨_,rfl⟩,.inr ⟨_,⟨k+1,by omega,List.range_succ.symm⟩,h2⟩⟩
    ·have h3:J (List.range k++[k]) W3∧KeepE B Bs W W3:=by
      rcases hres.out with ⟨_,h1,h2⟩|⟨h1,_⟩
      ·exact⟨h1,hk2.trans h2⟩
      ·cases h1
     have H3:=Lib.hid h3
     clear h3 hres
     gi_wp2
     go_roundw
     case rel=>exact⟨k+1,by omega,by simp,by rw[List.range_succ];exact H3.out.1,H3.out.2⟩
     case measure=>simp[intOf];omega
  ·obtain rfl:k=len:=by omega
   gi_wp2
   go_end0
   exact⟨⟨_,rfl⟩,.inl ⟨_,rfl,hJs⟩⟩
end Go.Proofs.YtpkeacnacjnlcaaGreat
namespace Go.Proofs.YtpkeacnacjnlcaaGreat
open Go.RowKit
theorem mod_tmod (k n:Nat):((k:Int)+1).tmod (n:Int)=(((k+1)%n:Nat):Int):=by
 rw[Int.tmod_eq_emod_of_nonneg (by omega),Int.natCast_emod]
 rfl
/-- The corner of a number in memory. -/
theorem Reads.ptA {w:World} {B n:Nat} {ad:Addr} {l:List Pt} (h:Reads w B 2 (some ad) n (ptsV l)) {k:Nat} (hk:k<n):
 ad.block<B∧w.cell? (ad.add (k*2))=some (.int .i64 (ptAt l k).x)∧w.cell? ⟨(ad.add (k*2)).block,(ad.add (k*2)).off+1,none⟩=some (.int .i64 (ptAt l k).y):=by
 obtain⟨ad',e,hb,hk',h1,h2⟩:=h.pt hk
 obtain rfl:ad=ad':=by simpa using e
 rw[ptAt_lt hk']
 exact⟨hb,h1,h2⟩
/-- A block that holds one point. -/
def PtK (W:World) (g:Nat) (p:Pt):Prop:=Blk W g 23 #[.int .i64 p.x,.int .i64 p.y]
theorem PtK.facts {W:World} {g:Nat} {p:Pt} (h:PtK W g p):W.cell? ⟨g,0,none⟩=some (.int .i64 p.x)∧W.cell? ⟨g,1,none⟩=some (.int .i64 p.y)∧W.frozen? ⟨g,0,none⟩=false∧W.frozen? ⟨g,1,none⟩=false∧g<W.heap.size:=
 ⟨by rw[Blk.cell h 0];rfl,by rw[Blk.cell h 1];rfl,Blk.frozen h 0,Blk.frozen h 1,Blk.lt h⟩
theorem PtK.new (w:World) (p:Pt):PtK (w.alloc (.cells #[.int .i64 p.x,.int .i64 p.y] 23)) w.heap.size p:=Blk.new w _ _
theorem PtK.on {w w':World} {g:Nat} {p:Pt} (h:PtK w g p) (hb:Below w.heap.size w w'):PtK w' g p:=Blk.below h hb (Blk.lt h)
theorem PtK.alloc {w:World} {g:Nat} {p:Pt} (h:PtK w g p) (o:Obj):PtK (w.alloc o) g p:=Blk.alloc h o
theorem PtK.far {w:World} {g:Nat} {p:Pt} (h:PtK w g p) {a:Addr} (hp:g≠a.block) (u:Value):PtK (w.setCell a u) g p:=Blk.far h hp u
theorem PtK.put {w:World} {g:Nat} {p:Pt} (h:PtK w g p) (q:Pt):PtK ((w.setCell ⟨g,0,none⟩ (.int .i64 q.x)).setCell ⟨g,1,none⟩ (.int .i64 q.y)) g q:=Blk.set_ (Blk.set_ h 0 (.int .i64 q.x)) 1 (.int .i64 q.y)
end Go.Proofs.YtpkeacnacjnlcaaGreat
namespace Go.Proofs.YtpkeacnacjnlcaaGreat
open Go.RowKit Go.Shelf
theorem edges_any (A:Option Addr) (len cap:Nat) (w:World):
 Calls Tryz.prog 98 #[.slice A len cap] w fun e w'=>e= .returned (.func (.func 153) #[] #[.pointer (some ⟨w.heap.size,0,none⟩)])∧w'=w.alloc (.cells #[.slice A len cap] 25):=by
 go_enter Tryz.func98,Tryz.ntmps98
 go_wp2
 go_ret
 exact⟨rfl,rfl⟩
theorem edges_stops (n:Nat) (hn:1≤n) (B Bs cap len:Nat) (A:Option Addr) (xs:List Pt) (hlen:len≤4611686018427387904) (w:World) (hs:Bs<w.heap.size) (hB:B≤w.heap.size) (hc:w.cell? ⟨Bs,0,none⟩=some (.slice A len cap)) (hr:Reads w B 2 A len (ptsV xs)):
 SeqStopsK Fence.wide n Tryz.prog 153 #[.pointer (some ⟨Bs,0,none⟩)] (edgeAt xs) (KeepE B Bs) (fun ys=>ys=List.range len) (fun pre=>∃k,k≤len∧pre=List.range k) len w:=fun l J Jx W hW hJ _ hY h0=>
 edges1_in n hn l B Bs cap A len xs hlen J Jx W hJ (fun x W1 hx hj=>hY _ x W1 hj (by simpa using hx)) ((hW.cell (p:=⟨Bs,0,none⟩) hs).trans hc) (hr.below (hW.mono hB)) (Nat.le_trans hB hW.size) h0
/-- The same, of a body that is told that the edge is one of the ring's. -/
theorem edges_stopsR (n:Nat) (hn:1≤n) (B Bs cap len:Nat) (A:Option Addr) (xs:List Pt) (hlen:len≤4611686018427387904) (w:World) (hs:Bs<w.heap.size) (hB:B≤w.heap.size) (hc:w.cell? ⟨Bs,0,none⟩=some (.slice A len cap)) (hr:Reads w B 2 A len (ptsV xs)):
 SeqStopsK Fence.wide n Tryz.prog 153 #[.pointer (some ⟨Bs,0,none⟩)] (fun x:{k:Nat // k<len}=>edgeAt xs x.1) (KeepE B Bs) (fun ys=>ys.map (·.1)=List.range len) (fun pre=>∃k,k≤len∧pre.map (·.1)=List.range k) len w:=fun l J Jx W hW hJ hJx hY h0=>by
 refine(edges1_in n hn l B Bs cap A len xs hlen (fun pre W=>∃ys:List {k:Nat // k<len},ys.map (·.1)=pre∧J ys W) (fun pre W=>∃ys:List {k:Nat // k<len},ys.map (·.1)=pre∧Jx ys W) W
  (fun s X Y row ⟨ys,e,hj⟩ hg hr=>⟨ys,e,hJ ys X Y row hj hg hr⟩) ?_ ((hW.cell (p:=⟨Bs,0,none⟩) hs).trans hc) (hr.below (hW.mono hB)) (Nat.le_trans hB hW.size) ⟨[],rfl,h0⟩).mono ?_
 ·rintro x W1 hx ⟨ys,e,hj⟩
  have hl:ys.length=x:=by have:=congrArg List.length e;simpa using this
  obtain⟨fn,tmps,assign,body,hy,hR⟩:=hY ys ⟨x,hx⟩ W1 hj (by omega)
  refine⟨fn,tmps,assign,body,hy,hR.mono ?_⟩
  rintro e' W' (⟨h1,h2,h3⟩|⟨h1,h2⟩)
  ·exact .inl ⟨h1,⟨_,by rw[List.map_append,e];rfl,h2⟩,h3⟩
  ·exact .inr ⟨h1,⟨_,by rw[List.map_append,e];rfl,h2⟩⟩
 ·rintro e W' ⟨hv,(⟨ys,rfl,zs,e1,hj⟩|⟨pre,⟨k,hk,rfl⟩,zs,e1,hj⟩)⟩
  ·exact⟨hv,.inl ⟨zs,e1,hj⟩⟩
  ·exact⟨hv,.inr ⟨zs,⟨k,hk,e1⟩,hj⟩⟩
end Go.Proofs.YtpkeacnacjnlcaaGreat
namespace Go.Proofs.YtpkeacnacjnlcaaGreat
open Go.RowKit
/-- A whole number's two halves. -/
def i128 (z:Int):Value:= .agg #[.int .i64 (z/18446744073709551616),.int .u64 (z%18446744073709551616)]
/-- The numbers that are reckoned with here. -/
def small (z:Int):Prop:= -1267650600228229401496703205376≤z∧z≤1267650600228229401496703205376
theorem add64_law (x y c:Int) (hx:0≤x) (hy:0≤y) (hc0:0≤c) (hc:c≤1) (w:World):
 (callFunc 208 #[.int .u64 x,.int .u64 y,.int .u64 c]).run Tryz.prog w=
   .ok (.value (.tuple #[.int .u64 ((x+y+c)%18446744073709551616),.int .u64 ((x+y+c)/18446744073709551616)])) w:=by
 rw[run_callFunc_extern Tryz.func208 (by kernel_rfl) (by kernel_rfl) (by kernel_rfl) (e:=add64Entry) (by kernel_rfl),run_add64 x y c hx hy hc0 hc]
 rfl
theorem of_any (n:Int) (w:World) (h1: -9223372036854775808≤n) (h2:n≤9223372036854775807):
 Calls Tryz.prog 206 #[.int .i64 n] w fun e w'=>e= .returned (i128 n)∧Below w.heap.size w w':=by
 unfold i128
 go_enter Tryz.func206,Tryz.ntmps206
 go_wp2
 have e1:n/9223372036854775808=n/18446744073709551616:=by omega
 have e2:IntKind.u64.wrap n=n%18446744073709551616:=by simp[IntKind.wrap,IntKind.bits,IntKind.signed]
 rw[e1,e2]
 exact bodyPost_ret (v:= .agg #[.int .i64 (n/18446744073709551616),.int .u64 (n%18446744073709551616)]) (by simp[results,Tryz.results206,go_sem]) rfl ⟨rfl,(Below.refl _ _).alloc (Nat.le_refl _) _⟩
theorem u64_wrap (z:Int):IntKind.u64.wrap z=z%18446744073709551616:=by simp[IntKind.wrap,IntKind.bits,IntKind.signed]
set_option maxRecDepth 100000 in
set_option maxHeartbeats 1600000 in
theorem add_any (x y:Int) (w:World) (hx:small x) (hy:small y):
 Calls Tryz.prog 183 #[i128 x,i128 y] w fun e w'=>e= .returned (.tuple #[i128 (x+y),.int .i64 0])∧Below w.heap.size w w':=by
 unfold small at hx hy
 obtain⟨h1,h2⟩:=hx
 obtain⟨h3,h4⟩:=hy
 obtain⟨xh,hxh⟩:∃z,z=x/18446744073709551616:=⟨_,rfl⟩
 obtain⟨xl,hxl⟩:∃z,z=x%18446744073709551616:=⟨_,rfl⟩
 obtain⟨yh,hyh⟩:∃z,z=y/18446744073709551616:=⟨_,rfl⟩
 obtain⟨yl,hyl⟩:∃z,z=y%18446744073709551616:=⟨_,rfl⟩
 obtain⟨sh,hsh⟩:∃z,z=(x+y)/18446744073709551616:=⟨_,rfl⟩
 obtain⟨sl,hsl⟩:∃z,z=(x+y)%18446744073709551616:=⟨_,rfl⟩
 have f1:0≤xl∧xl<18446744073709551616∧0≤yl∧yl<18446744073709551616:=by omega
 have f2: -68719476736≤xh∧xh≤68719476736∧ -68719476736≤yh∧yh≤68719476736∧ -137438953472≤sh∧sh≤137438953472:=by omega
 obtain⟨cc,hcc⟩:∃z,z=(xl+yl+0)/18446744073709551616:=⟨_,rfl⟩
 have f3:0≤cc∧cc≤1:=by omega
 have f4:(xl+yl+0)%18446744073709551616=sl:=by omega
 have f5:sh=xh+yh+cc:=by omega
 have A1:=add64_law xl yl 0 (by omega) (by omega) (by omega) (by omega)
 rw[f4,←hcc]at A1
 have A2:=add64_law (xh%18446744073709551616) (yh%18446744073709551616) cc (by omega) (by omega) (by omega) (by omega)
 obtain⟨c2,hc2⟩:∃z,z=(xh%18446744073709551616+yh%18446744073709551616+cc)/18446744073709551616:=⟨_,rfl⟩
 obtain⟨su,hsu⟩:∃z,z=(xh%18446744073709551616+yh%18446744073709551616+cc)%18446744073709551616:=⟨_,rfl⟩
 rw[←hsu,←hc2]at A2
 have w1:IntKind.u64.wrap xh=xh%18446744073709551616:=u64_wrap _
 have w2:IntKind.u64.wrap yh=yh%18446744073709551616:=u64_wrap _
 have w3:IntKind.i64.wrap su=sh:=by rw[IntKind.wrap_i64];omega
 have hsgn:(¬(xh<0)∧¬(yh<0)∧¬(sh<0))∨(xh<0∧yh<0∧sh<0)∨(xh<0∧¬(yh<0))∨(¬(xh<0)∧yh<0):=by omega
 unfold i128
 rw[←hxh,←hxl,←hyh,←hyl,←hsh,←hsl]
 clear hxh hxl hyh hyl hsh hsl f4 f5 hcc hc2 hsu h1 h2 h3 h4 f1 f2 f3
 rcases hsgn with ⟨g1,g2,g3⟩|⟨g1,g2,g3⟩|⟨g1,g2⟩|⟨g1,g2⟩
 all_goals
  go_enter Tryz.func183,Tryz.ntmps183
  go_wp2
  exact bodyPost_ret (v:= .tuple #[.agg #[.int .i64 sh,.int .u64 sl],.int .i64 0]) (by simp[results,Tryz.results183,go_sem]) rfl ⟨rfl,((((Below.refl _ _).alloc (Nat.le_refl _) _).alloc (by simp) _).alloc (by simp;omega) _).alloc (by simp;omega) _⟩
theorem i128_zero:i128 0= .agg #[.int .i64 0,.int .u64 0]:=rfl
def sgI (z:Int):Int:=if z<0 then -1 else if z=0 then 0 else 1
theorem sign_any (z:Int) (w:World) (hz:small z):
 Calls Tryz.prog 178 #[i128 z] w fun e w'=>e= .returned (.int .i64 (sgI z))∧Below w.heap.size w w':=by
 unfold small at hz
 obtain⟨h1,h2⟩:=hz
 have h3:(z<0∧z/18446744073709551616<0∧sgI z= -1)∨(z=0∧sgI z=0)∨(0<z∧0≤z/18446744073709551616∧(z/18446744073709551616≠0∨z/18446744073709551616=0∧z%18446744073709551616≠0)∧sgI z=1):=by
  unfold sgI
  by_cases a:z<0
  ·left;exact⟨a,by omega,if_pos a⟩
  ·by_cases b:z=0
   ·right;left;exact⟨b,by rw[if_neg a,if_pos b]⟩
   ·right;right;exact⟨by omega,by omega,by omega,by rw[if_neg a,if_neg b]⟩
 rcases h3 with ⟨a,b,e⟩|⟨rfl,e⟩|⟨a,b,c|⟨c,d⟩,e⟩
 ·rw[e]
  unfold i128
  generalize z/18446744073709551616=zh at *
  generalize z%18446744073709551616=zl at *
  clear a h1 h2 e
  go_enter Tryz.func178,Tryz.ntmps178
  go_wp2
  go_ret
  exact⟨rfl,(Below.refl _ _).alloc (Nat.le_refl _) _⟩
 ·rw[e,i128_zero]
  clear e
  go_enter Tryz.func178,Tryz.ntmps178
  go_wp2
  go_ret
  exact⟨rfl,(Below.refl _ _).alloc (Nat.le_refl _) _⟩
 ·rw[e]
  unfold i128
  generalize z/18446744073709551616=zh at *
  generalize z%18446744073709551616=zl at *
  have g1:(zh==0)=false:=by simpa using c
  clear a h1 h2 e c
  go_enter Tryz.func178,Tryz.ntmps178
  go_wp2
  go_ret
  exact⟨rfl,(Below.refl _ _).alloc (Nat.le_refl _) _⟩
 ·rw[e]
  unfold i128
  generalize z/18446744073709551616=zh at *
  generalize z%18446744073709551616=zl at *
  have g1:(zl==0)=false:=by simpa using d
  subst c
  clear a h1 h2 e d b
  go_enter Tryz.func178,Tryz.ntmps178
  go_wp2
  go_ret
  exact⟨rfl,(Below.refl _ _).alloc (Nat.le_refl _) _⟩
/-- A row of whole numbers, as its cells. -/
def wideV (l:List Int):List Value:=l.flatMap fun z=>[.int .i64 (z/18446744073709551616),.int .u64 (z%18446744073709551616)]
theorem wideV_length (l:List Int):(wideV l).length=l.length*2:=by
 induction l with
 |nil=>rfl
 |cons p l ih=>rw[wideV,List.flatMap_cons,List.length_append];rw[wideV]at ih;rw[ih];simp;omega
theorem wideV_append (a b:List Int):wideV (a++b)=wideV a++wideV b:=by simp[wideV]
theorem wideV_one (l:List Int):∀u∈wideV l,u.oneCell'=true:=by
 intro u hu
 simp only[wideV,List.mem_flatMap]at hu
 obtain⟨p,_,hp⟩:=hu
 simp at hp
 rcases hp with rfl|rfl<;>rfl
theorem wideV_get (l:List Int) (k:Nat) (h:k<l.length):(wideV l)[k*2]?=some (.int .i64 (l[k]/18446744073709551616))∧(wideV l)[k*2+1]?=some (.int .u64 (l[k]%18446744073709551616)):=by
 induction l generalizing k with
 |nil=>simp at h
 |cons p l ih=>
  rcases k with _|k
  ·exact⟨rfl,rfl⟩
  ·have:=ih k (by simpa using h)
   rw[wideV,List.flatMap_cons]
   rw[wideV]at this
   rw[Nat.succ_mul,Nat.add_right_comm]
   exact this
theorem Reads.wide {w:World} {B n:Nat} {A:Option Addr} {l:List Int} (h:Reads w B 2 A n (wideV l)) {k:Nat} (hk:k<n):
 ∃ad,A=some ad∧ad.block<B∧∃hk':k<l.length,w.cell? (ad.add (k*2))=some (.int .i64 ((l[k]'hk')/18446744073709551616))∧w.cell? ⟨(ad.add (k*2)).block,(ad.add (k*2)).off+1,none⟩=some (.int .u64 ((l[k]'hk')%18446744073709551616)):=by
 obtain⟨ad,e,hb,hc⟩:=h.2 (by omega)
 have hk':k<l.length:=by have:=h.1;rw[wideV_length]at this;omega
 exact⟨ad,e,hb,hk',hc _ _ (wideV_get l k hk').1,by rw[add_next];exact hc _ _ (wideV_get l k hk').2⟩
/-- A block that is just a whole number. -/
def WdB (w:World) (g:Nat) (z:Int):Prop:=Blk w g 37 #[.int .i64 (z/18446744073709551616),.int .u64 (z%18446744073709551616)]
section
variable {w w':World} {g:Nat} {z:Int}
theorem WdB.facts (h:WdB w g z):w.cell? ⟨g,0,none⟩=some (.int .i64 (z/18446744073709551616))∧w.cell? ⟨g,1,none⟩=some (.int .u64 (z%18446744073709551616))∧w.frozen? ⟨g,0,none⟩=false∧w.frozen? ⟨g,1,none⟩=false∧g<w.heap.size:=
 ⟨by rw[Blk.cell h 0];rfl,by rw[Blk.cell h 1];rfl,Blk.frozen h 0,Blk.frozen h 1,Blk.lt h⟩
theorem WdB.on (h:WdB w g z) (hb:Below w.heap.size w w'):WdB w' g z:=Blk.below h hb (Blk.lt h)
theorem WdB.alloc (h:WdB w g z) (o:Obj):WdB (w.alloc o) g z:=Blk.alloc h o
theorem WdB.put (h:WdB w g z) (y:Int):WdB ((w.setCell ⟨g,0,none⟩ (.int .i64 (y/18446744073709551616))).setCell ⟨g,1,none⟩ (.int .u64 (y%18446744073709551616))) g y:=
 Blk.set_ (Blk.set_ h 0 _) 1 _
end
def sumL (l:List Int):Int:=l.foldl (· + ·) 0
theorem sumL_take (l:List Int) (k:Nat) (h:k<l.length):sumL (l.take (k+1))=sumL (l.take k)+l[k]:=by
 unfold sumL
 rw[List.take_succ_eq_append_getElem h,List.foldl_append]
 rfl
theorem sumL_bd (l:List Int) (h:∀z∈l,-1180591620717411303424≤z∧z≤1180591620717411303424) (k:Nat) (hk:k≤l.length): -(1180591620717411303424*(k:Int))≤sumL (l.take k)∧sumL (l.take k)≤1180591620717411303424*(k:Int):=by
 induction k with
 |zero=>simp[sumL]
 |succ k ih=>
  rw[sumL_take l k (by omega)]
  have h1:=ih (by omega)
  have h2:=h _ (List.getElem_mem (by omega:k<l.length))
  omega
set_option maxHeartbeats 800000 in
theorem total_any (zs:List Int) (A:Option Addr) (n cap:Nat) (w:World) (hr:Reads w w.heap.size 2 A n (wideV zs)) (hn:n≤1000000) (hz:∀z∈zs,-1180591620717411303424≤z∧z≤1180591620717411303424):
 Calls Tryz.prog 151 #[.slice A n cap] w fun e w'=>e= .returned (.tuple #[i128 (sumL zs),.int .i64 0])∧Below w.heap.size w w':=by
 have hl:zs.length=n:=by have:=hr.1;rw[wideV_length]at this;omega
 have HL:=Lib.hid hl
 have HZ:=Lib.hid hz
 clear hl hz
 go_enter Tryz.func151,Tryz.ntmps151
 go_wp2
 generalize hW0:w.alloc (.cells #[.int .i64 0,.int .u64 0] 37)=w0
 have hg0:WdB w0 w.heap.size 0:=by rw[←hW0];exact Blk.new w _ _
 have hB0:Below w.heap.size w w0:=by rw[←hW0];exact(Below.refl _ _).alloc (Nat.le_refl _) _
 clear hW0
 go_loopw [3,8] (fun e i wr=>∃k:Nat,k≤n∧e= .int .i64 0∧i= .int .i64 (k:Int)∧WdB wr w.heap.size (sumL (zs.take k))∧Below w.heap.size w wr) (fun _ i _=>n-(intOf i).toNat)
 case atStart=>exact⟨0,Nat.zero_le _,rfl,rfl,hg0,hB0⟩
 case round=>
  clear hg0 hB0
  obtain⟨k,hk,rfl,rfl,hg,hbel⟩:=hrel
  by_cases hlt:k<n
  ·obtain⟨ad,rfl,hb,hkl,hcx,hcy⟩:=(hr.below hbel).wide hlt
   have hz:=HZ.out _ (List.getElem_mem hkl)
   have hs1:=sumL_bd zs HZ.out k (by omega)
   have hsum:=sumL_take zs k hkl
   obtain⟨z,hzz⟩:∃z,z=zs[k]:=⟨_,rfl⟩
   obtain⟨s,hss⟩:∃s,s=sumL (zs.take k):=⟨_,rfl⟩
   rw[←hzz]at hcx hcy hz hsum
   rw[←hss]at hg hs1 hsum
   have HS:=Lib.hid (And.intro hsum (And.intro hs1 hz))
   clear hzz hss hsum hs1 hz
   have hg1:=hg.alloc (.cells #[.int .i64 (z/18446744073709551616),.int .u64 (z%18446744073709551616)] 37)
   have hb1:=hbel.alloc hbel.size (.cells #[.int .i64 (z/18446744073709551616),.int .u64 (z%18446744073709551616)] 37)
   obtain⟨s1,s2,s3,s4,s5⟩:=hg1.facts
   go_wp2_with fail
   refine(add_any s z _ ?_ ?_).mono ?_
   ·have:=HS.out;unfold small;omega
   ·have:=HS.out;unfold small;omega
   rintro e w2 ⟨rfl,hb2⟩
   replace hg:=hg1.on hb2
   replace hbel:=below_on hb1 (Nat.le_refl _) hb2
   rw[←HS.out.1]
   clear hb2 hg1 hb1 s1 s2 s3 s4 s5 hcx hcy
   obtain⟨s1,s2,s3,s4,s5⟩:=hg.facts
   unfold i128
   go_wp2
   go_roundw
   case rel=>exact⟨k+1,by omega,rfl,by go_num,hg.put _,(hbel.setCell (p:=⟨w.heap.size,0,none⟩) (Nat.le_refl _) _).setCell (p:=⟨w.heap.size,1,none⟩) (Nat.le_refl _) _⟩
   case measure=>simp[intOf];omega
  ·have hkn:k=n:=by omega
   subst hkn
   obtain⟨s,hss⟩:∃s,s=sumL zs:=⟨_,rfl⟩
   have e:sumL (zs.take k)=s:=by rw[hss,List.take_of_length_le (by have:=HL.out;omega)]
   rw[e]at hg
   have HSS:=Lib.hid hss
   clear e hss
   have hgp:=hg.put s
   obtain⟨s1,s2,s3,s4,s5⟩:=hg.facts
   obtain⟨p1,p2,p3,p4,p5⟩:=hgp.facts
   clear hg hgp
   go_wp2
   exact bodyPost_ret (v:= .tuple #[.agg #[.int .i64 (s/18446744073709551616),.int .u64 (s%18446744073709551616)],.int .i64 0]) (by simp[results,Tryz.results151,go_sem,p1,p2]) rfl ⟨by rw[←HSS.out];rfl,(hbel.setCell (p:=⟨w.heap.size,0,none⟩) (Nat.le_refl _) _).setCell (p:=⟨w.heap.size,1,none⟩) (Nat.le_refl _) _⟩
end Go.Proofs.YtpkeacnacjnlcaaGreat
