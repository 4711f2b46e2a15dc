/- grid.cell, merestoneref02.cell: the walks; A []byte argument opened as a list of bytes; geo.Cross of points of the grid: the walk; merestonelaw13.own: the walk: bytes of their own; Plain law: the cells of a window, by X, then by Y; those of a smaller one are some of them. No condition; grid.around: the walk; frame.Num: the walk. -/
import Derived.RangeFuncBox
import Derived.Sort.CutIn
import Derived.Deep.RegionHeld3
import Derived.Deep.DeepCutAuto
import Derived.Test.YtpkeacnacjnlcaaGreatRows
import Derived.Test.YtpkeacnacjnlcaaGreatK01
import Derived.Test.YtpkeacnacjnlcaaGreatK02
import Derived.Test.YtpkeacnacjnlcaaGreatK03
import Derived.Test.YtpkeacnacjnlcaaGreatK04
import Derived.Test.YtpkeacnacjnlcaaGreatK05
namespace Go.Proofs.YtpkeacnacjnlcaaGreat
open Go.RowKit
theorem cell_any (n:Int) (w:World):
 Calls Tryz.prog 185 #[.int .i64 n] w fun e w'=>e= .returned (.int .i64 (n/268435456))∧w=w':=by
 go_enter Tryz.func185,Tryz.ntmps185
 go_wp2_with fail
 go_ret
 exact⟨rfl,rfl⟩
theorem tdiv_neg (n:Int) (h:n<0):n.tdiv 268435456= -((-n)/268435456):=by
 have h1:n.tdiv 268435456= -((-n).tdiv 268435456):=by rw[Int.neg_tdiv];omega
 rw[h1,Int.tdiv_eq_ediv_of_nonneg (by omega)]
theorem tmod_neg (n:Int) (h:n<0):n.tmod 268435456= -((-n)%268435456):=by
 have h1:n.tmod 268435456= -((-n).tmod 268435456):=by rw[Int.neg_tmod];omega
 rw[h1,Int.tmod_eq_emod_of_nonneg (by omega)]
theorem cellR_any (n:Int) (w:World) (h1: -9223372036854775808≤n) (h2:n≤9223372036854775807):
 Calls Tryz.prog 100 #[.int .i64 n] w fun e w'=>e= .returned (.int .i64 (n/268435456))∧w=w':=by
 by_cases h:n<0
 ·have e1:=tdiv_neg n h
  have e2:=tmod_neg n h
  by_cases hm:(-n)%268435456=0
  ·have hb:(n.tmod 268435456 != 0)=false:=by rw[e2,hm];rfl
   have E1:=Lib.hid e1
   have HM:=Lib.hid hm
   clear e1 e2 hm
   go_enter Tryz.func100,Tryz.ntmps100
   go_wp2_with fail
   go_ret
   refine⟨?_,rfl⟩
   show Ending.returned (.int .i64 (n.tdiv 268435456))=_
   rw[E1.out]
   have:=HM.out
   rw[show -(-n/268435456)=n/268435456 from by omega]
  ·have hb:(n.tmod 268435456 != 0)=true:=by rw[e2];simp;omega
   have E1:=Lib.hid e1
   have HM:=Lib.hid hm
   clear e1 e2 hm
   go_enter Tryz.func100,Tryz.ntmps100
   go_wp2_with fail
   go_ret
   refine⟨?_,rfl⟩
   show Ending.returned (.int .i64 (wrap64 (n.tdiv 268435456-1)))=_
   rw[E1.out]
   have:=HM.out
   rw[show wrap64 (-(-n/268435456)-1)=n/268435456 from by unfold wrap64;omega]
 ·have h0:0≤n:=by omega
  clear h
  go_enter Tryz.func100,Tryz.ntmps100
  go_wp2_with fail
  go_ret
  exact⟨rfl,rfl⟩
end Go.Proofs.YtpkeacnacjnlcaaGreat
namespace Go.Proofs.YtpkeacnacjnlcaaGreat
open Go.RowKit Go.WideShapes Go.ChangeShapes Go.Deep Go.ChangeAt
section
variable {H:Type} {enc:TypeId×Value→H} {P:Program}
theorem wf_u8 {z:Int} (h:(Lit.int .u8 z).wf=true):(((UInt8.ofNat z.toNat).toNat:Nat):Int)=z:=by
 have h1:IntKind.u8.min=0:=rfl
 have h2:IntKind.u8.max=255:=rfl
 simp only[Lit.wf,Bool.and_eq_true,decide_eq_true_eq,h1,h2]at h
 rw[UInt8.toNat_ofNat']
 omega
end
theorem Tryz.cells_u8:Tryz.prog.cellsOf 5=1:=by kernel_rfl
theorem Tryz.bytes_u8:Tryz.prog.bytesOf 5=1:=by kernel_rfl
end Go.Proofs.YtpkeacnacjnlcaaGreat
namespace Go.Proofs.YtpkeacnacjnlcaaGreat
open Go.RowKit
theorem reads_three (w:World) (a b c:Pt) (k:Nat) (hk:k=w.heap.size):Reads (w.alloc (.cells #[.int .i64 a.x,.int .i64 a.y,.int .i64 b.x,.int .i64 b.y,.int .i64 c.x,.int .i64 c.y] 23)) (w.alloc (.cells #[.int .i64 a.x,.int .i64 a.y,.int .i64 b.x,.int .i64 b.y,.int .i64 c.x,.int .i64 c.y] 23)).heap.size 2 (some ⟨k,0,none⟩) 3 (ptsV [a,b,c]):=by
 subst hk
 exact Reads.made w _ _ _ 2 3 _ rfl rfl
theorem good_in' {p:Pt} (h:good p=true):p.inI:=by
 rw[good_iff]at h
 unfold Pt.inI
 omega
set_option maxHeartbeats 800000 in
theorem crossW_any (a b c:Pt) (w:World) (ha:good a=true) (hb:good b=true) (hc:good c=true):
 Calls Tryz.prog 182 #[ptV a,ptV b,ptV c] w fun e w'=>e= .returned (.tuple #[i128 (cr a b c),.int .i64 0])∧Below w.heap.size w w':=by
 have hbd:=cr_bd ha hb hc
 have HG:=Lib.hid (And.intro ha (And.intro hb (And.intro hc hbd)))
 clear ha hb hc hbd
 obtain⟨hA,hC,hD,hB⟩:=three_new w a b c 23
 have HN:=Lib.hid (And.intro hA (And.intro hC (And.intro hD hB)))
 clear hA hC hD hB
 obtain⟨r,hr⟩:∃r,r=cr a b c:=⟨_,rfl⟩
 have HR:=Lib.hid hr
 clear hr
 unfold ptV
 go_enter Tryz.func182,Tryz.ntmps182
 go_wp2_with fail
 obtain⟨hA,hC,hD,hB⟩:=HN.out
 clear HN
 generalize hW0:(((w.alloc (.cells #[.int .i64 a.x,.int .i64 a.y] 23)).alloc (.cells #[.int .i64 b.x,.int .i64 b.y] 23)).alloc (.cells #[.int .i64 c.x,.int .i64 c.y] 23))=w0 at *
 have hz0:w0.heap.size=w.heap.size+1+1+1:=by rw[←hW0];simp
 clear hW0
 have hQ:WdB (w0.alloc (.cells #[.int .i64 0,.int .u64 0] 37)) w0.heap.size 0:=Blk.new w0 _ _
 rw[hz0]at hQ
 replace hA:=hA.alloc (.cells #[.int .i64 0,.int .u64 0] 37)
 replace hC:=hC.alloc (.cells #[.int .i64 0,.int .u64 0] 37)
 replace hD:=hD.alloc (.cells #[.int .i64 0,.int .u64 0] 37)
 replace hB:=hB.alloc hB.size (.cells #[.int .i64 0,.int .u64 0] 37)
 have hz1:(w0.alloc (.cells #[.int .i64 0,.int .u64 0] 37)).heap.size=w.heap.size+1+1+1+1:=by rw[World.size_alloc,hz0]
 generalize w0.alloc (.cells #[.int .i64 0,.int .u64 0] 37)=w1 at *
 refine(good_any [a,b,c] _ 3 3 _ ?hq (by omega) ?hin).mono ?_
 case hq=>exact reads_three w1 a b c _ hz1.symm
 case hin=>
  intro p hp
  have:=HG.out
  simp at hp
  rcases hp with rfl|rfl|rfl
  ·exact good_in' this.1
  ·exact good_in' this.2.1
  ·exact good_in' this.2.2.1
 rintro e w2 ⟨rfl,hb2⟩
 have hgl:goodL [a,b,c]=true:=by simp[goodL,HG.out]
 rw[hgl]
 replace hA:=(hA.alloc _).on hb2
 replace hC:=(hC.alloc _).on hb2
 replace hD:=(hD.alloc _).on hb2
 replace hQ:=(hQ.alloc _).on hb2
 replace hB:=(hB.alloc hB.size _).trans (hb2.mono (by simp;have:=hB.size;omega))
 clear hgl hb2
 obtain⟨a1,a2,a3⟩:=hA
 obtain⟨b1,b2,b3⟩:=hC
 obtain⟨c1,c2,c3⟩:=hD
 go_wp2_with fail
 refine(cross_any a b c _ HG.out.1 HG.out.2.1 HG.out.2.2.1).mono ?_
 rintro e w3 ⟨rfl,hb3⟩
 rw[←HR.out]
 replace hQ:=hQ.on hb3
 replace hB:=below_on hB (Nat.le_refl _) hb3
 clear hb3 a1 a2 a3 b1 b2 b3 c1 c2 c3
 go_wp2_with fail
 refine(of_any r _ (by rw[HR.out];have:=HG.out.2.2.2;omega) (by rw[HR.out];have:=HG.out.2.2.2;omega)).mono ?_
 rintro e w4 ⟨rfl,hb4⟩
 replace hQ:=hQ.on hb4
 replace hB:=below_on hB (Nat.le_refl _) hb4
 clear hb4
 have hQp:=hQ.put r
 obtain⟨q1,q2,q3,q4,q5⟩:=hQ.facts
 obtain⟨p1,p2,p3,p4,p5⟩:=hQp.facts
 unfold i128
 go_wp2
 exact bodyPost_ret (v:= .tuple #[.agg #[.int .i64 (r/18446744073709551616),.int .u64 (r%18446744073709551616)],.int .i64 0]) (by simp[results,Tryz.results182,go_sem,p1,p2]) rfl ⟨by rw[←HR.out];rfl,below_put hB (by omega) _ _⟩
end Go.Proofs.YtpkeacnacjnlcaaGreat
namespace Go.Proofs.YtpkeacnacjnlcaaGreat
open Go.RowKit Go.Shelf
attribute [local go_sem] Oper.semAt_some
/-- The share of an edge in a ring's area. -/
def areaK (xs:List Pt) (k:Nat):Int:=cr ⟨0,0⟩ (ptAt xs k) (ptAt xs ((k+1)%xs.length))
def areaZ (xs:List Pt):Int:=sumL ((List.range xs.length).map (areaK xs))
theorem blk_own {β:Type} (B:Nat) (t:TypeId) (f:β→Array Value):Own (fun s W=>Blk W B t (f s)):=fun s X Y row hs hg hrow=>
 Blk.grown hs hg (fun e'=>by obtain⟨o,ho,hc⟩:=hrow B e'.symm;rw[show X.heap[B]?=_ from hs]at ho;cases ho;cases hc)
theorem own_below {w w':World} {base:Nat} {e:TypeId} {size n:Nat} {v:Value} {xs:List Value} (h:w.ownsRow base e size v n xs) (hb:Below w.heap.size w w'):w'.ownsRow base e size v n xs:=by
 refine h.kept (only_of_below hb none) ?_
 rcases h.2 with ⟨rfl,_⟩|⟨g,cap,cur,rfl,_⟩
 ·exact .inl rfl
 ·exact .inr (by simp[Value.ownBlock])
theorem keeps_below {W W':World} (hb:Below W.heap.size W W'):KeepsOthers W W':=⟨hb.size,fun k _ hk _=>(hb.block k (Array.getElem?_eq_some_iff.1 hk).1).trans hk⟩
theorem two_cells (W:World) (a b:Value) (t:TypeId) (k:Nat) (hk:k=W.heap.size):∀(j:Nat) (u:Value),[a,b][j]?=some u→(W.alloc (.cells #[a,b] t)).cell? ((⟨k,0,none⟩:Addr).add j)=some u:=by
 subst hk
 intro j u hu
 rw[add_row,World.cell?_alloc_mark,←Array.getElem?_toList]
 exact hu
theorem cross6 (x y x' y' x'' y'':Int) (w:World) (ha:good ⟨x,y⟩=true) (hb:good ⟨x',y'⟩=true) (hc:good ⟨x'',y''⟩=true):
 Calls Tryz.prog 182 #[.agg #[.int .i64 x,.int .i64 y],.agg #[.int .i64 x',.int .i64 y'],.agg #[.int .i64 x'',.int .i64 y'']] w fun e w'=>e= .returned (.tuple #[i128 (cr ⟨x,y⟩ ⟨x',y'⟩ ⟨x'',y''⟩),.int .i64 0])∧Below w.heap.size w w':=crossW_any _ _ _ w ha hb hc
theorem ptAt_good {xs:List Pt} (h:goodL xs=true) (k:Nat):good (ptAt xs k)=true:=by
 unfold ptAt
 rcases hk:xs[k]? with _|p
 ·rfl
 ·exact List.all_eq_true.1 h p (List.mem_of_getElem? hk)
theorem info_int:(Tryz.prog.info? 37).map (fun i=>(i.zero,i.size,i.bytes))=some (some (.agg #[.int .i64 0,.int .u64 0]),2,16):=by kernel_rfl
set_option maxRecDepth 100000 in
set_option maxHeartbeats 1600000 in
theorem area_good (xs:List Pt) (A:Option Addr) (n cap:Nat) (w:World) (hr:Reads w w.heap.size 2 A n (ptsV xs)) (hn:n≤128) (hg:goodL xs=true):
 Calls Tryz.prog 150 #[.slice A n cap] w fun e w'=>e= .returned (.tuple #[i128 (areaZ xs),.int .i64 0])∧Below w.heap.size w w':=by
 have HG:=Lib.hid hg
 have hgx:∀p∈xs,p.inI:=fun p hp=>good_in' (List.all_eq_true.1 hg p hp)
 have HX:=Lib.hid hgx
 clear hg hgx
 refine(callsIn_wide (n:=3)).1 ?_
 refine callsIn_of_wp_marks Tryz.func150 rfl trivial ?_ rfl
 simp only[Tryz.ntmps150,List.size_toArray,List.length_cons,List.length_nil,Nat.reduceAdd,Nat.reduceSub,Array.replicate_succ,Array.replicate_zero,List.push_toArray,List.append_toArray,List.nil_append,List.cons_append]
 have hr1:=Lib.hid ((hr.alloc (Nat.le_refl _) (.cells #[.int .i64 0,.int .u64 0] 37)).more (B':=w.heap.size+1) (by omega))
 clear hr
 have hd128:decide ((128:Int)<(n:Int))=false:=decide_eq_false (by omega)
 gi_wp2_with fail
 refine⟨trivial,?_⟩
 generalize hW1:w.alloc (.cells #[.int .i64 0,.int .u64 0] 37)=w1 at *
 have hQ:WdB w1 w.heap.size 0:=by rw[←hW1];exact Blk.new w _ _
 have hB:Below w.heap.size w w1:=by rw[←hW1];exact(Below.refl _ _).alloc (Nat.le_refl _) _
 have hz1:w1.heap.size=w.heap.size+1:=by rw[←hW1];simp
 clear hW1
 refine(callsIn_wide.2 (good_any xs A n cap w1 (by rw[hz1];exact hr1.out) (by omega) HX.out)).mono ?_
 rintro e w2 ⟨rfl,hb2⟩
 rw[HG.out]
 replace hQ:=hQ.on hb2
 replace hB:=below_on hB (Nat.le_refl _) hb2
 have hr2:=Lib.hid ((show Reads w1 w1.heap.size 2 A n (ptsV xs) by rw[hz1];exact hr1.out).on hb2)
 clear hb2 hr1
 gi_wp2_with fail
 refine⟨trivial,?_⟩
 refine(callsIn_wide.2 (edges_any A n cap _)).mono ?_
 rintro e w3 ⟨rfl,rfl⟩
 gi_wp2_with fail
 have bL:=Boxed.new w2 188 (.slice none 0 0)
 have bE:=Boxed.new (w2.alloc (.cells #[.slice none 0 0] 188)) 25 (.slice A n cap)
 rw[World.size_alloc]at bE
 replace bL:=bL.alloc (.cells #[.slice A n cap] 25)
 have hQ0:=(hQ.alloc (.cells #[.slice none 0 0] 188)).alloc (.cells #[.slice A n cap] 25)
 have hB0:=(hB.alloc hB.size (.cells #[.slice none 0 0] 188)).alloc (by have:=hB.size;simp;omega) (.cells #[.slice A n cap] 25)
 have hr0:=(hr2.out.alloc (Nat.le_refl _) (.cells #[.slice none 0 0] 188)).alloc (by simp) (.cells #[.slice A n cap] 25)
 have hz0:((w2.alloc (.cells #[.slice none 0 0] 188)).alloc (.cells #[.slice A n cap] 25)).heap.size=w2.heap.size+2:=by simp
 generalize (w2.alloc (.cells #[.slice none 0 0] 188)).alloc (.cells #[.slice A n cap] 25)=w0 at *
 have hsz2:=hB.size
 have hqlt:w.heap.size<w2.heap.size:=Blk.lt hQ
 refine wpIn_rangeFunc_ownH rfl (by omega) (gf:=153) (lb:=#[.pointer (some ⟨w2.heap.size+1,0,none⟩)]) rfl trivial (enters_of Tryz.func153 (by kernel_rfl) rfl)
  (edges_stops 2 (by omega) w2.heap.size (w2.heap.size+1) cap n A xs (by omega) w0 (by omega) (by omega) bE.cell hr0) (fun h k=>h.trans k)
  (fun W l o o' hl h _ _=>⟨by simp,fun i hi=>World.putObj_heap_other (by omega)⟩) (Below.refl _ _) (fun _=>rfl)
  (fun pre W=>(∃v,Boxed W w2.heap.size 188 v∧W.ownsRow w2.heap.size 37 2 v pre.length (wideV (pre.map (areaK xs)))∧True)∧Boxed W (w2.heap.size+1) 25 (.slice A n cap)∧WdB W w.heap.size 0∧Below w.heap.size w W)
  (fun _ _ _=>False)
  (OwnFrom.and (Own.from (holdsRow_own w2.heap.size w2.heap.size _ _ 2 (fun pre:List Nat=>pre.length) (fun pre=>wideV (pre.map (areaK xs))) (fun _ _=>True)) _)
    (OwnFrom.and (Own.from (boxed_own _ _ _) _) (OwnFrom.and (Own.from (blk_own _ _ _) _) (ownFrom_below (Nat.le_refl _) (by omega)))))
  (fun _ _ _ _ _ hs _ _=>hs)
  ⟨⟨_,bL,World.ownsRow_nil _ _ _ _,trivial⟩,bE,hQ0,hB0⟩
  (fun x a' W=>∃Bx,Blk W Bx 76 #[.int .i64 (ptAt xs x).x,.int .i64 (ptAt xs x).y,.int .i64 (ptAt xs ((x+1)%xs.length)).x,.int .i64 (ptAt xs ((x+1)%xs.length)).y]∧
    a'={ tmps:=#[.slice A n cap,undef,.pointer (some ⟨w.heap.size,0,none⟩),.int .i64 0,.pointer (some ⟨w2.heap.size,0,none⟩),undef,.pointer (some ⟨Bx,0,none⟩),undef,undef,.bool false,.slice A n cap,.int .i64 (n:Int),.bool false,undef,.bool false,.slice A n cap,.bool true,.bool false,undef,.slice A n cap,.func (.func 153) #[] #[.pointer (some ⟨w2.heap.size+1,0,none⟩)],.int .i64 (x:Int),.agg #[.int .i64 (ptAt xs x).x,.int .i64 (ptAt xs x).y,.int .i64 (ptAt xs ((x+1)%xs.length)).x,.int .i64 (ptAt xs ((x+1)%xs.length)).y],undef,undef,undef,undef,undef,undef,undef,undef,undef,undef,undef,undef,undef,undef,undef,undef,undef],defers:=[] })
  (fun x a'=>fun s X Y row ⟨Bx,hs,e⟩ hg hrow=>⟨Bx,blk_own Bx _ (fun _:Unit=>_) () X Y row hs hg (fun r hr=>(hrow r hr).2),e⟩) ?assign ?body ?done ?stop
 case assign=>
  rintro l pre x W K ⟨⟨v,bv,hown,_⟩,bE',hQ',hB'⟩ hK
  unfold edgeAt edgeV
  gi_wp2
  have hsz:=hB'.size
  have hlt:=bE'.lt
  refine hK _ _ ((KeepsOthers.alloc _ _).from _) (KeepE.alloc (by omega) hlt _) ⟨⟨v,bv.alloc _,hown.alloc _,trivial⟩,bE'.alloc _,hQ'.alloc _,hB'.alloc hB'.size _⟩ ⟨W.heap.size,Blk.new W _ _,rfl⟩
 case body=>
  rintro l pre x a' W hl ⟨r,hrr⟩ ⟨⟨v,bv,hown,_⟩,bE',hQ',hB'⟩ ⟨Bx,hBx,rfl⟩ hlen
  obtain⟨i0,hi0,hz0',hz1',hz2'⟩:=info_parts info_int
  have hpg:=ptAt_good HG.out x
  have hqg:=ptAt_good HG.out ((x+1)%xs.length)
  have hak:areaK xs x=cr ⟨0,0⟩ (ptAt xs x) (ptAt xs ((x+1)%xs.length)):=rfl
  obtain⟨p,hp⟩:∃p,p=ptAt xs x:=⟨_,rfl⟩
  obtain⟨q,hq⟩:∃q,q=ptAt xs ((x+1)%xs.length):=⟨_,rfl⟩
  rw[←hp,←hq]at hBx hak
  rw[←hp]at hpg
  rw[←hq]at hqg
  rw[←hp,←hq]
  obtain⟨z,hz⟩:∃z,z=areaK xs x:=⟨_,rfl⟩
  have HZ:=Lib.hid (And.intro hz hak)
  have HPQ:=Lib.hid (And.intro hpg hqg)
  clear hp hq hpg hqg hz hak
  have x1:W.cell? ⟨Bx,0,none⟩=some (.int .i64 p.x):=by rw[Blk.cell hBx 0];rfl
  have x2:W.cell? ⟨Bx,1,none⟩=some (.int .i64 p.y):=by rw[Blk.cell hBx 1];rfl
  have x3:W.cell? ⟨Bx,2,none⟩=some (.int .i64 q.x):=by rw[Blk.cell hBx 2];rfl
  have x4:W.cell? ⟨Bx,3,none⟩=some (.int .i64 q.y):=by rw[Blk.cell hBx 3];rfl
  gi_wp2_with fail
  refine⟨trivial,?_⟩
  refine(CallsIn.inRound l (callsIn_wide.2 (cross6 0 0 p.x p.y q.x q.y W (by decide) HPQ.out.1 HPQ.out.2))).mono ?_
  rintro e W1 ⟨rfl,hb1⟩
  have hzz:cr ⟨0,0⟩ ⟨p.x,p.y⟩ ⟨q.x,q.y⟩=z:=by rw[HZ.out.1,HZ.out.2]
  rw[hzz]
  have bv1:Boxed W1 w2.heap.size 188 v:=Blk.below bv hb1 bv.lt
  have bE1:Boxed W1 (w2.heap.size+1) 25 (.slice A n cap):=Blk.below bE' hb1 bE'.lt
  have hQ1:=hQ'.on hb1
  have hown1:=own_below hown hb1
  have hB1:=below_on hB' (Nat.le_refl _) hb1
  have hk1:=keeps_below hb1
  have hlt1:=bE1.lt
  have hE1:KeepE w2.heap.size (w2.heap.size+1) W W1:=KeepE.below hb1 (by have:=bv.lt;omega) bE'.lt
  have Hk:=Lib.hid (And.intro hk1 hE1)
  clear hzz hb1 hk1 hE1 x1 x2 x3 x4 hBx bv bE' hQ' hown hB' hrr
  unfold i128
  have hlen':pre.length<128:=by omega
  have hbc:=(bv1.alloc (.cells #[.int .i64 (z/18446744073709551616),.int .u64 (z%18446744073709551616)] 37)).cell
  have hbc2:=((bv1.alloc (.cells #[.int .i64 (z/18446744073709551616),.int .u64 (z%18446744073709551616)] 37)).alloc (.cells #[.int .i64 (z/18446744073709551616),.int .u64 (z%18446744073709551616)] 37)).cell
  gi_wp2_with (first
   |(gi_at_builtin;refine wpListIn_append_own _ rfl _ _ 188 rfl w2.heap.size 37 i0 _ 2 16 Tryz.underlying188 hi0 hz0' hz1' hz2' rfl (by decide) v pre.length _ rfl ((hown1.alloc _).alloc _) ⟨W1.heap.size+1,0,none⟩ 1 1 [.int .i64 (z/18446744073709551616),.int .u64 (z%18446744073709551616)] rfl rfl (two_cells _ _ _ _ _ (by simp)) (by simp[Value.oneCell']) (by simp only[maxLen];omega) (by omega) (by simp;omega) ?_
     intro v' w3 hown' hgrow _
     obtain⟨g',cap',rfl⟩:=ownsRow_succ hown'
     obtain⟨hv1,hv2,hr3,hk3,hb3⟩:=Boxed.appended (bv1.alloc (.cells #[.int .i64 (z/18446744073709551616),.int .u64 (z%18446744073709551616)] 37)) (by decide) (hown1.alloc (.cells #[.int .i64 (z/18446744073709551616),.int .u64 (z%18446744073709551616)] 37)) (by simp;omega) (Nat.le_refl _) hown' hgrow
     have hc1:=hv1.cell
     have hf1:=hv1.frozen))
  have bE2:=bE1.alloc (.cells #[.int .i64 (z/18446744073709551616),.int .u64 (z%18446744073709551616)] 37)
  have bE3:=(bE2.alloc (.cells #[.int .i64 (z/18446744073709551616),.int .u64 (z%18446744073709551616)] 37)).kept hgrow (bE2.not_row (by decide) (hown1.alloc _))
  have bE4:=bE3.other (B':=w2.heap.size) (by omega) (.slice (some ⟨g',0,none⟩) (pre.length+1) cap')
  refine⟨(Hk.out.1.trans ((KeepsOthers.alloc _ _).trans hk3)).from _,⟨Nat.le_trans Hk.out.2.1 (Nat.le_trans (by simp) hk3.size),?_⟩,⟨_,hv2,?_,trivial⟩,bE4,Blk.below (hQ1.alloc _) hb3 (by omega),(hB1.alloc hB1.size _).trans (hb3.mono (by omega))⟩
  ·intro i hi
   rcases hi with hi|hi
   ·rw[hb3.block i hi,Below.heap_alloc W1 _ i (by omega)]
    exact Hk.out.2.2 i (.inl hi)
   ·subst hi
    rw[←Hk.out.2.2 _ (.inr rfl)]
    exact(show _=_ from bE4).trans (show _=_ from bE1).symm
  ·rw[List.length_append,List.map_append,wideV_append,List.map_singleton,←HZ.out.1]
   exact hr3
 case done=>
  rintro D ys W hD rfl ⟨⟨v,bv,hown,_⟩,bE',hQ',hB'⟩ hK
  rw[List.length_range]at hown
  obtain⟨A',c',rfl⟩:=own_form hown
  have hc1:=bv.cell
  have hf1:=bv.frozen
  have hrd:=Lib.hid (Reads.of_own hown)
  clear hown
  gi_wp2_with fail
  refine⟨trivial,?_⟩
  refine(callsIn_wide.2 (total_any ((List.range n).map (areaK xs)) A' n c' W hrd.out (by omega) ?_)).mono ?_
  ·intro z hz
   simp only[List.mem_map]at hz
   obtain⟨k,_,rfl⟩:=hz
   have:=cr_bd (a:=⟨0,0⟩) (by decide) (ptAt_good HG.out k) (ptAt_good HG.out ((k+1)%xs.length))
   unfold areaK
   omega
  rintro e w5 ⟨rfl,hb5⟩
  have hQ5:=hQ'.on hb5
  have hB5:=below_on hB' (Nat.le_refl _) hb5
  have hK5:w5.heap[D]?=some (.deferred (some [])):=(hb5.block D (Array.getElem?_eq_some_iff.1 hK).1).trans hK
  obtain⟨z,hz⟩:∃z,z=sumL ((List.range n).map (areaK xs)):=⟨_,rfl⟩
  rw[←hz]
  have HZ:=Lib.hid hz
  have hQp:=hQ5.put z
  obtain⟨q1,q2,q3,q4,q5⟩:=hQ5.facts
  clear hb5 hz hc1 hf1 hK bv bE' hQ' hB'
  unfold i128
  gi_wp2
  have hKf:((w5.setCell ⟨w.heap.size,0,none⟩ (.int .i64 (z/18446744073709551616))).setCell ⟨w.heap.size,1,none⟩ (.int .u64 (z%18446744073709551616))).heap[D]?=some (.deferred (some [])):=by
   rw[Below.heap_setCell _ _ _ D (by simp only;omega),Below.heap_setCell _ _ _ D (by simp only;omega)]
   exact hK5
  obtain⟨p1,p2,p3,p4,p5⟩:=hQp.facts
  refine⟨by simp,.inl ⟨_,_,rfl,run_takeDeferred hKf,?_⟩⟩
  have r1:=cell_kept p1 (grownBy_putObj' _ D (.deferred none)) (fun r e=>by cases e;exact⟨_,hKf,rfl⟩)
  have r2:=cell_kept p2 (grownBy_putObj' _ D (.deferred none)) (fun r e=>by cases e;exact⟨_,hKf,rfl⟩)
  refine⟨.tuple #[.agg #[.int .i64 (z/18446744073709551616),.int .u64 (z%18446744073709551616)],.int .i64 0],?_,?_,?_⟩
  ·simp[results,Tryz.results150,go_sem,r1,r2]
  ·unfold areaZ
   have hl:xs.length=n:=hr0.lenPt
   rw[hl,←HZ.out]
   rfl
  ·exact(below_put hB5 (Nat.le_refl _) _ _).trans (belowK_b (w:=w) (Nat.le_refl _) _ D _ _ (by omega) hKf rfl rfl)
 case stop=>
  rintro D c pre W _ _ h _
  exact h.elim
def areaE (xs:List Pt):Int:=if 128<xs.length then 12 else if goodL xs=true then 0 else 3
def areaV (xs:List Pt):Int:=if areaE xs=0 then areaZ xs else 0
set_option maxRecDepth 100000 in
set_option maxHeartbeats 800000 in
theorem area_any (xs:List Pt) (A:Option Addr) (n cap:Nat) (w:World) (hr:Reads w w.heap.size 2 A n (ptsV xs)) (hn:n≤9223372036854775807) (hx:∀p∈xs,p.inI):
 Calls Tryz.prog 150 #[.slice A n cap] w fun e w'=>e= .returned (.tuple #[i128 (areaV xs),.int .i64 (areaE xs)])∧Below w.heap.size w w':=by
 have hl:xs.length=n:=hr.lenPt
 by_cases h1:128<n
 ·have e1:areaE xs=12:=by unfold areaE;rw[if_pos (by omega)]
  have e2:areaV xs=0:=by unfold areaV;rw[if_neg (by rw[e1];decide)]
  rw[e1,e2,i128_zero]
  have h1':(128:Int)<(n:Int):=by omega
  clear e1 e2 hr hx hl
  refine(callsIn_wide (n:=3)).1 ?_
  refine callsIn_of_wp_marks Tryz.func150 rfl trivial ?_ rfl
  simp only[Tryz.ntmps150,List.size_toArray,List.length_cons,List.length_nil,Nat.reduceAdd,Nat.reduceSub,Array.replicate_succ,Array.replicate_zero,List.push_toArray,List.append_toArray,List.nil_append,List.cons_append]
  gi_wp2
  refine⟨.tuple #[.agg #[.int .i64 0,.int .u64 0],.int .i64 12],?_,rfl,(Below.refl _ _).alloc (Nat.le_refl _) _⟩
  simp[results,Tryz.results150,go_sem]
 ·rcases hg:goodL xs with _|_
  ·have e1:areaE xs=3:=by unfold areaE;rw[if_neg (by omega),if_neg (by rw[hg];decide)]
   have e2:areaV xs=0:=by unfold areaV;rw[if_neg (by rw[e1];decide)]
   rw[e1,e2,i128_zero]
   have hd128:decide ((128:Int)<(n:Int))=false:=decide_eq_false (by omega)
   have HG:=Lib.hid (And.intro hg hx)
   have hr1:=Lib.hid ((hr.alloc (Nat.le_refl _) (.cells #[.int .i64 0,.int .u64 0] 37)).more (B':=w.heap.size+1) (by omega))
   clear e1 e2 hr hx hl hg
   refine(callsIn_wide (n:=3)).1 ?_
   refine callsIn_of_wp_marks Tryz.func150 rfl trivial ?_ rfl
   simp only[Tryz.ntmps150,List.size_toArray,List.length_cons,List.length_nil,Nat.reduceAdd,Nat.reduceSub,Array.replicate_succ,Array.replicate_zero,List.push_toArray,List.append_toArray,List.nil_append,List.cons_append]
   gi_wp2_with fail
   refine⟨trivial,?_⟩
   generalize hW1:w.alloc (.cells #[.int .i64 0,.int .u64 0] 37)=w1 at *
   have hQ:WdB w1 w.heap.size 0:=by rw[←hW1];exact Blk.new w _ _
   have hB:Below w.heap.size w w1:=by rw[←hW1];exact(Below.refl _ _).alloc (Nat.le_refl _) _
   have hz1:w1.heap.size=w.heap.size+1:=by rw[←hW1];simp
   clear hW1
   refine(callsIn_wide.2 (good_any xs A n cap w1 (by rw[hz1];exact hr1.out) (by omega) HG.out.2)).mono ?_
   rintro e w2 ⟨rfl,hb2⟩
   rw[HG.out.1]
   replace hQ:=hQ.on hb2
   replace hB:=below_on hB (Nat.le_refl _) hb2
   clear hb2 hr1
   have hQp:=hQ.put 0
   obtain⟨q1,q2,q3,q4,q5⟩:=hQ.facts
   obtain⟨p1,p2,p3,p4,p5⟩:=hQp.facts
   gi_wp2
   simp only[Int.zero_ediv,Int.zero_emod]at p1 p2
   refine⟨.tuple #[.agg #[.int .i64 0,.int .u64 0],.int .i64 3],?_,rfl,below_put hB (Nat.le_refl _) _ _⟩
   simp[results,Tryz.results150,go_sem,p1,p2]
  ·have e1:areaE xs=0:=by unfold areaE;rw[if_neg (by omega),if_pos hg]
   have e2:areaV xs=areaZ xs:=by unfold areaV;rw[if_pos e1]
   rw[e1,e2]
   exact area_good xs A n cap w hr (by omega) hg
end Go.Proofs.YtpkeacnacjnlcaaGreat
namespace Go.Proofs.YtpkeacnacjnlcaaGreat
def nextB (n i j:Nat):Bool:=decide (j=i+1)||(decide (i=0)&&decide (j=n-1))
def meetOf (xs:List Pt) (i j:Nat):Int:=meetR (ptAt xs i) (ptAt xs ((i+1)%xs.length)) (ptAt xs j) (ptAt xs ((j+1)%xs.length))
def pairOK (xs:List Pt) (i j:Nat):Bool:=decide (ptAt xs i≠ptAt xs j)&&decide (meetOf xs i j=if nextB xs.length i j=true then 1 else 0)
def PairsOK (xs:List Pt):Prop:=∀i j,i<j→j<xs.length→pairOK xs i j=true
open Classical in
noncomputable def checkI (xs:List Pt):Int:=if areaE xs≠0 then areaE xs else if 3≤xs.length∧0<areaZ xs∧PairsOK xs then 0 else 4
theorem checkI_err {xs:List Pt} (h:areaE xs≠0):checkI xs=areaE xs:=if_pos h
theorem checkI_ok {xs:List Pt} (h:areaE xs=0) (h3:3≤xs.length) (ha:0<areaZ xs) (hp:PairsOK xs):checkI xs=0:=by
 unfold checkI
 rw[if_neg (by rw[h];decide),if_pos ⟨h3,ha,hp⟩]
theorem checkI_no {xs:List Pt} (h:areaE xs=0) (hn:¬(3≤xs.length∧0<areaZ xs∧PairsOK xs)):checkI xs=4:=by
 unfold checkI
 rw[if_neg (by rw[h];decide),if_neg hn]
theorem areaV_ok {xs:List Pt} (h:areaE xs=0):areaV xs=areaZ xs:=if_pos h
theorem areaE_zero {xs:List Pt} (h:areaE xs=0):xs.length≤128∧goodL xs=true:=by
 unfold areaE at h
 split at h
 ·cases h
 ·split at h
  ·exact⟨by omega,by assumption⟩
  ·cases h
theorem checkI_zero {xs:List Pt} (h:checkI xs=0):xs.length≤128∧goodL xs=true∧3≤xs.length∧0<areaZ xs∧PairsOK xs:=by
 unfold checkI at h
 split at h
 ·rename_i h1;exact absurd h h1
 ·rename_i h1
  have h2:=areaE_zero (by omega:areaE xs=0)
  split at h
  ·rename_i h3;exact⟨h2.1,h2.2,h3⟩
  ·cases h
end Go.Proofs.YtpkeacnacjnlcaaGreat
namespace Go.Proofs.YtpkeacnacjnlcaaGreat
open Go.RowKit Go.Shelf
attribute [local go_sem] Go.Oper.semAt_some
def valAt (xs:List Pt) (k:Nat):Array Value:=#[.agg #[.int .i64 (ptAt xs k).x,.int .i64 (ptAt xs k).y]]
set_option maxRecDepth 100000 in
set_option maxHeartbeats 3200000 in
theorem values1_in (n:Nat) (hn:1≤n) (l B Bs cap:Nat) (A:Option Addr) (len:Nat) (xs:List Pt) (hlen:len≤4611686018427387904) (J Jx:List Nat→World→Prop)
 (W:World) (hJ:AbidesFrom W.heap.size J)
 (hY:∀x W1,x<len→J (List.range x) W1→YieldAt Fence.wide (n-1) Tryz.prog l (valAt xs x) W1 fun e W'=>
   (e= .returned (.bool true)∧J (List.range x++[x]) W'∧KeepE B Bs W1 W')∨(e= .returned (.bool false)∧Jx (List.range x++[x]) W'))
 (hBs:W.cell? ⟨Bs,0,none⟩=some (.slice A len cap)) (hr:Reads W B 2 A len (ptsV xs)) (hBW:B≤W.heap.size) (h0:J [] W):
 CallsIn Fence.wide n Tryz.prog 212 #[.func (.yield l) #[] #[],.pointer (some ⟨Bs,0,none⟩)] W fun e W'=>(∃v,e= .returned v)∧
  ((∃ys,ys=List.range len∧J ys W')∨(∃pre,(∃k,k≤len∧pre=List.range k)∧Jx pre W')):=by
 refine callsIn_of_wp Tryz.func212 rfl trivial ?_ rfl
 simp only[Tryz.ntmps212,List.size_toArray,List.length_cons,List.length_nil,Nat.reduceAdd,Nat.reduceSub,Array.replicate_succ,Array.replicate_zero,List.push_toArray,List.append_toArray,List.nil_append,List.cons_append]
 gi_wp2
 gi_loopw [7] (fun i wr=>∃k:Nat,k≤len∧i= .int .i64 k∧J (List.range k) wr∧KeepE B Bs W wr) (fun i _=>len-(intOf i).toNat)
 case atStart=>exact⟨0,Nat.zero_le _,rfl,h0,KeepE.refl _ _ _⟩
 case round=>
  obtain⟨k,hk,rfl,hJs,hkp⟩:=hrel
  have hsz:=hkp.1
  by_cases hlt:k<len
  ·have hbs:Bs<W.heap.size:=cell_lt' hBs
   obtain⟨ad,rfl,hbd,hkl,hcx,hcy⟩:=(hkp.reads hr).pt hlt
   obtain⟨p,hp⟩:∃p,p=ptAt xs k:=⟨_,rfl⟩
   have hpk:xs[k]=p:=by rw[hp,ptAt_lt hkl]
   have hed:valAt xs k=#[.agg #[.int .i64 p.x,.int .i64 p.y]]:=by unfold valAt;rw[←hp]
   rw[hpk]at hcx hcy
   have hlt':(k:Int)<(len:Int):=by omega
   have hw1:IntKind.i64.wrap ((k:Int)+1)=(k:Int)+1:=IntWalk.i64_in _ (by omega)
   have HE:=Lib.hid hed
   clear hp hpk hed
   gi_upto_region 3 with fail
   refine wpIn_named fun W2 hW2=>?_
   have hk2:KeepE B Bs W W2:=by rw[hW2];exact hkp.trans (KeepE.alloc (by omega) (by omega) _)
   have hJ2:J (List.range k) W2:=by
    rw[hW2]
    exact hJ _ _ _ none hJs (World.grownBy_alloc wr _ none) (fun r e=>by cases e)
   have hpx:W2.cell? ⟨wr.heap.size,0,none⟩=some (.int .i64 p.x):=by rw[hW2];simp
   have hpy:W2.cell? ⟨wr.heap.size,1,none⟩=some (.int .i64 p.y):=by rw[hW2];simp
   have hY2:=hY k W2 hlt hJ2
   rw[HE.out]at hY2
   obtain⟨fn,tmps,assign,body,hy,hR⟩:=hY2
   clear hW2 hJ2 hkp hJs hcx hcy
   gi_wp2_with fail
   refine hR.mono ?_
   rintro e W3 (⟨rfl,hJ3,hk3⟩|⟨rfl,hJx3⟩)
   ·gi_wp2
    go_roundw
    case rel=>exact⟨k+1,by omega,by simp,by rw[List.range_succ];exact hJ3,hk2.trans hk3⟩
    case measure=>simp[intOf];omega
   ·gi_wp2
    refine bodyPost_ret (results_none rfl _ _ _) rfl ?_
    exact⟨⟨_,rfl⟩,.inr ⟨_,⟨k+1,by omega,List.range_succ.symm⟩,hJx3⟩⟩
  ·obtain rfl:k=len:=by omega
   gi_wp2
   go_end0
   exact⟨⟨_,rfl⟩,.inl ⟨_,rfl,hJs⟩⟩
theorem values_any (A:Option Addr) (len cap:Nat) (w:World):
 Calls Tryz.prog 196 #[.slice A len cap] w fun e w'=>e= .returned (.func (.func 212) #[] #[.pointer (some ⟨w.heap.size,0,none⟩)])∧w'=w.alloc (.cells #[.slice A len cap] 25):=by
 go_enter Tryz.func196,Tryz.ntmps196
 go_wp2
 go_ret
 exact⟨rfl,rfl⟩
theorem values_stops (n:Nat) (hn:1≤n) (B Bs cap len:Nat) (A:Option Addr) (xs:List Pt) (hlen:len≤4611686018427387904) (w:World) (hs:Bs<w.heap.size) (hB:B≤w.heap.size) (hc:w.cell? ⟨Bs,0,none⟩=some (.slice A len cap)) (hr:Reads w B 2 A len (ptsV xs)):
 SeqStopsK Fence.wide n Tryz.prog 212 #[.pointer (some ⟨Bs,0,none⟩)] (valAt xs) (KeepE B Bs) (fun ys=>ys=List.range len) (fun pre=>∃k,k≤len∧pre=List.range k) len w:=fun l J Jx W hW hJ _ hY h0=>
 values1_in n hn l B Bs cap A len xs hlen J Jx W hJ (fun x W1 hx hj=>hY _ x W1 hj (by simpa using hx)) ((hW.cell (p:=⟨Bs,0,none⟩) hs).trans hc) (hr.below (hW.mono hB)) (Nat.le_trans hB hW.size) h0
attribute [local go_sem] Go.Oper.semAt_some
theorem info_pt:(Tryz.prog.info? 23).map (fun i=>(i.zero,i.size,i.bytes))=some (some (.agg #[.int .i64 0,.int .i64 0]),2,16):=by kernel_rfl
theorem range_ptAt (xs:List Pt):(List.range xs.length).map (ptAt xs)=xs:=by
 refine List.ext_getElem (by simp) fun i h1 h2=>?_
 rw[List.getElem_map,List.getElem_range,ptAt_lt h2]
set_option maxRecDepth 100000 in
set_option maxHeartbeats 1600000 in
theorem appendSeq_any (xs:List Pt) (A:Option Addr) (n cap B Bs:Nat) (w:World) (hn:n≤128) (hB:B≤w.heap.size) (hs:Bs<w.heap.size) (hc:w.cell? ⟨Bs,0,none⟩=some (.slice A n cap)) (hr:Reads w B 2 A n (ptsV xs)):
 Calls Tryz.prog 216 #[.slice none 0 0,.func (.func 212) #[] #[.pointer (some ⟨Bs,0,none⟩)]] w fun e w'=>∃v,e= .returned v∧w'.ownsRow w.heap.size 23 2 v n (ptsV xs)∧Below w.heap.size w w':=by
 have HL:=Lib.hid (hr.lenPt)
 refine(callsIn_wide (n:=3)).1 ?_
 refine callsIn_of_wp_marks Tryz.func216 rfl trivial ?_ rfl
 simp only[Tryz.ntmps216,List.size_toArray,List.length_cons,List.length_nil,Nat.reduceAdd,Nat.reduceSub,Array.replicate_succ,Array.replicate_zero,List.push_toArray,List.append_toArray,List.nil_append,List.cons_append]
 gi_wp2_with fail
 have bL:=Boxed.new w 24 (.slice none 0 0)
 have hB0:=(Below.refl w.heap.size w).alloc (Nat.le_refl _) (.cells #[.slice none 0 0] 24)
 have hr0:=hr.below (hB0.mono hB)
 have hc0:=(hB0.cell (p:=⟨Bs,0,none⟩) hs).trans hc
 have hz0:(w.alloc (.cells #[.slice none 0 0] 24)).heap.size=w.heap.size+1:=by simp
 generalize w.alloc (.cells #[.slice none 0 0] 24)=w0 at *
 refine wpIn_rangeFunc_ownH rfl (by omega) (gf:=212) (lb:=#[.pointer (some ⟨Bs,0,none⟩)]) rfl trivial (enters_of Tryz.func212 (by kernel_rfl) rfl)
  (values_stops 2 (by omega) B Bs cap n A xs (by omega) w0 (by omega) (by omega) hc0 hr0) (fun h k=>h.trans k)
  (fun W l o o' hl h _ _=>⟨by simp,fun i hi=>World.putObj_heap_other (by omega)⟩) (Below.refl _ _) (fun _=>rfl)
  (fun pre W=>(∃v,Boxed W w.heap.size 24 v∧W.ownsRow w.heap.size 23 2 v pre.length (ptsV (pre.map (ptAt xs)))∧True)∧Below w.heap.size w W)
  (fun _ _ _=>False)
  (OwnFrom.and (Own.from (holdsRow_own w.heap.size w.heap.size _ _ 2 (fun pre:List Nat=>pre.length) (fun pre=>ptsV (pre.map (ptAt xs))) (fun _ _=>True)) _) (ownFrom_below (Nat.le_refl _) (by omega)))
  (fun _ _ _ _ _ hs _ _=>hs)
  ⟨⟨_,bL,World.ownsRow_nil _ _ _ _,trivial⟩,hB0⟩
  (fun x a' W=>∃Bx,Blk W Bx 23 #[.int .i64 (ptAt xs x).x,.int .i64 (ptAt xs x).y]∧
    a'={ tmps:=#[.slice none 0 0,.func (.func 212) #[] #[.pointer (some ⟨Bs,0,none⟩)],.pointer (some ⟨w.heap.size,0,none⟩),undef,.slice none 0 0,.pointer (some ⟨Bx,0,none⟩),.func (.func 212) #[] #[.pointer (some ⟨Bs,0,none⟩)],.agg #[.int .i64 (ptAt xs x).x,.int .i64 (ptAt xs x).y],undef,undef,undef,undef,undef],defers:=[] })
  (fun x a'=>fun s X Y row ⟨Bx,hs,e⟩ hg hrow=>⟨Bx,blk_own Bx _ (fun _:Unit=>_) () X Y row hs hg (fun r hr=>(hrow r hr).2),e⟩) ?assign ?body ?done ?stop
 case assign=>
  rintro l pre x W K ⟨⟨v,bv,hown,_⟩,hB'⟩ hK
  unfold valAt
  gi_wp2
  have hsz:=hB'.size
  have hlt:=bv.lt
  refine hK _ _ ((KeepsOthers.alloc _ _).from _) (KeepE.alloc (by omega) (by omega) _) ⟨⟨v,bv.alloc _,hown.alloc _,trivial⟩,hB'.alloc hB'.size _⟩ ⟨W.heap.size,Blk.new W _ _,rfl⟩
 case body=>
  rintro l pre x a' W hl ⟨r,hrr⟩ ⟨⟨v,bv,hown,_⟩,hB'⟩ ⟨Bx,hBx,rfl⟩ hlen
  obtain⟨i0,hi0,hz0',hz1',hz2'⟩:=info_parts info_pt
  obtain⟨p,hp⟩:∃p,p=ptAt xs x:=⟨_,rfl⟩
  rw[←hp]at hBx
  rw[←hp]
  have HPX:=Lib.hid hp
  have x1:W.cell? ⟨Bx,0,none⟩=some (.int .i64 p.x):=by rw[Blk.cell hBx 0];rfl
  have x2:W.cell? ⟨Bx,1,none⟩=some (.int .i64 p.y):=by rw[Blk.cell hBx 1];rfl
  have hsz:=hB'.size
  have hbc:=bv.cell
  have hlen':pre.length<128:=by omega
  clear hp hrr hBx
  gi_wp2_with (first
   |(gi_at_builtin;refine wpListIn_append_own _ rfl _ _ 24 rfl w.heap.size 23 i0 _ 2 16 Tryz.underlying24 hi0 hz0' hz1' hz2' rfl (by decide) v pre.length _ rfl (hown.alloc _) ⟨W.heap.size,0,none⟩ 1 1 [.int .i64 p.x,.int .i64 p.y] rfl rfl (two_cells _ _ _ _ _ rfl) (by simp[Value.oneCell']) (by simp only[maxLen];omega) (by omega) (by simp;omega) ?_
     intro v' w3 hown' hgrow _
     obtain⟨g',cap',rfl⟩:=ownsRow_succ hown'
     obtain⟨hv1,hv2,hr3,hk3,hb3⟩:=Boxed.appended bv (by decide) hown (by omega) (Nat.le_refl _) hown' hgrow
     have hc1:=hv1.cell
     have hf1:=hv1.frozen))
  refine⟨hk3.from _,⟨hk3.size,fun i hi=>hb3.block i (by omega)⟩,⟨_,hv2,?_,trivial⟩,hB'.trans (hb3.mono (Nat.le_refl _))⟩
  rw[List.length_append,List.map_append,List.map_singleton,ptsV_append,←HPX.out]
  exact hr3
 case done=>
  rintro D ys W hD rfl ⟨⟨v,bv,hown,_⟩,hB'⟩ hK
  rw[List.length_range,←HL.out,range_ptAt]at hown
  obtain⟨A',c',rfl⟩:=own_form hown
  have hc1:=bv.cell
  have hOW:=Lib.hid hown
  clear hown
  gi_wp2_with fail
  refine⟨by simp,.inl ⟨_,_,rfl,run_takeDeferred hK,?_⟩⟩
  refine⟨.slice A' xs.length c',by simp[results,Tryz.results216,go_sem],⟨_,rfl,?_,hB'.trans (belowK_b (w:=w) (Nat.le_refl _) W D _ _ (by omega) hK rfl rfl)⟩⟩
  rw[←HL.out]
  exact ownsRow_putObj hOW.out _ hK rfl
 case stop=>
  rintro D c pre W _ _ h _
  exact h.elim
end Go.Proofs.YtpkeacnacjnlcaaGreat
namespace Go.Proofs.YtpkeacnacjnlcaaGreat
open Go.RowKit
theorem info_u8:(Tryz.prog.info? 5).map (fun i=>(i.zero,i.size,i.bytes))=some (some (.int .u8 0),1,1):=by kernel_rfl
theorem u8s_one (l:List UInt8):∀u∈u8s l,u.oneCell'=true:=by
 intro u hu
 simp only[u8s,List.mem_map]at hu
 obtain⟨b,_,rfl⟩:=hu
 rfl
/-- A slice of bytes of the call's own: its value, that it is new, that older memory is as it was. -/
def Own8 (xs:List UInt8) (w:World) (e:Ending) (w':World):Prop:=
 ∃A c,e= .returned (.slice A xs.length c)∧w'.ownsRow w.heap.size 5 1 (.slice A xs.length c) xs.length (u8s xs)∧Below w.heap.size w w'
end Go.Proofs.YtpkeacnacjnlcaaGreat
namespace Go.Proofs.YtpkeacnacjnlcaaGreat
theorem colL_get (x y0:Int) (m k:Nat) (h:k<(colL x y0 m).length):(colL x y0 m)[k]=⟨x,y0+(k:Int)⟩:=by simp[colL]
theorem spanR_get (x0 y0:Int) (m n k:Nat) (h:k<(spanR x0 y0 m n).length):(spanR x0 y0 m n)[k]=⟨x0+((k/m:Nat):Int),y0+((k%m:Nat):Int)⟩:=by
 induction n with
 |zero=>simp[spanR]at h
 |succ n ih=>
  rw[spanR_length]at h
  have hm:0<m:=by rcases Nat.eq_zero_or_pos m with h0|h0;·subst h0;simp at h
                  ·exact h0
  simp only[spanR_succ]
  by_cases hk:k<n*m
  ·rw[List.getElem_append_left (by rw[spanR_length];exact hk)]
   exact ih (by rw[spanR_length];exact hk)
  ·rw[List.getElem_append_right (by rw[spanR_length];omega),colL_get]
   rw[Nat.succ_mul]at h
   obtain⟨j,hj⟩:∃j,k=n*m+j:=⟨k-n*m,by omega⟩
   subst hj
   have hj:j<m:=by omega
   simp only[spanR_length]
   rw[Nat.add_sub_cancel_left]
   have e1:(n*m+j)/m=n:=by rw[Nat.mul_comm,Nat.mul_add_div hm,Nat.div_eq_of_lt hj];rfl
   have e2:(n*m+j)%m=j:=by rw[Nat.mul_comm,Nat.mul_add_mod,Nat.mod_eq_of_lt hj]
   rw[e1,e2]
end Go.Proofs.YtpkeacnacjnlcaaGreat
namespace Go.Proofs.YtpkeacnacjnlcaaGreat
open Go.RowKit
/-- The least window that has the first corner, and so many more. -/
def aroW (xs:List Pt):Nat→Win
 |0=>⟨(ptAt xs 0).x,(ptAt xs 0).y,(ptAt xs 0).x,(ptAt xs 0).y⟩
 |k+1=>⟨mn (aroW xs k).lx (ptAt xs k).x,mn (aroW xs k).ly (ptAt xs k).y,mx (aroW xs k).hx (ptAt xs k).x,mx (aroW xs k).hy (ptAt xs k).y⟩
def WinK (W:World) (g:Nat) (v:Win):Prop:=Blk W g 100 #[.int .i64 v.lx,.int .i64 v.ly,.int .i64 v.hx,.int .i64 v.hy]
theorem WinK.facts {W:World} {g:Nat} {v:Win} (h:WinK W g v):(W.cell? ⟨g,0,none⟩=some (.int .i64 v.lx)∧W.cell? ⟨g,1,none⟩=some (.int .i64 v.ly)∧W.cell? ⟨g,2,none⟩=some (.int .i64 v.hx)∧W.cell? ⟨g,3,none⟩=some (.int .i64 v.hy))∧
 (W.frozen? ⟨g,0,none⟩=false∧W.frozen? ⟨g,1,none⟩=false∧W.frozen? ⟨g,2,none⟩=false∧W.frozen? ⟨g,3,none⟩=false)∧g<W.heap.size:=
 ⟨⟨by rw[Blk.cell h 0];rfl,by rw[Blk.cell h 1];rfl,by rw[Blk.cell h 2];rfl,by rw[Blk.cell h 3];rfl⟩,⟨Blk.frozen h 0,Blk.frozen h 1,Blk.frozen h 2,Blk.frozen h 3⟩,Blk.lt h⟩
theorem WinK.put {W:World} {g:Nat} {v:Win} (h:WinK W g v) (u:Win):WinK ((((W.setCell ⟨g,0,none⟩ (.int .i64 u.lx)).setCell ⟨g,1,none⟩ (.int .i64 u.ly)).setCell ⟨g,2,none⟩ (.int .i64 u.hx)).setCell ⟨g,3,none⟩ (.int .i64 u.hy)) g u:=
 Blk.set_ (Blk.set_ (Blk.set_ (Blk.set_ h 0 (.int .i64 u.lx)) 1 (.int .i64 u.ly)) 2 (.int .i64 u.hx)) 3 (.int .i64 u.hy)
theorem below_put4 {B:Nat} {w w':World} (h:Below B w w') {g:Nat} (hg:B≤g) (a b c d:Value):Below B w ((((w'.setCell ⟨g,0,none⟩ a).setCell ⟨g,1,none⟩ b).setCell ⟨g,2,none⟩ c).setCell ⟨g,3,none⟩ d):=
 (((h.setCell (p:=⟨g,0,none⟩) hg a).setCell (p:=⟨g,1,none⟩) hg b).setCell (p:=⟨g,2,none⟩) hg c).setCell (p:=⟨g,3,none⟩) hg d
theorem WinK.far4 {W:World} {g k:Nat} {v:Win} (h:WinK W g v) (hk:g≠k) (a b c d:Value):WinK ((((W.setCell ⟨k,0,none⟩ a).setCell ⟨k,1,none⟩ b).setCell ⟨k,2,none⟩ c).setCell ⟨k,3,none⟩ d) g v:=
 Blk.far (Blk.far (Blk.far (Blk.far h (p:=⟨k,0,none⟩) hk a) (p:=⟨k,1,none⟩) hk b) (p:=⟨k,2,none⟩) hk c) (p:=⟨k,3,none⟩) hk d
theorem heldA2 {W V V':World} {a:Addr} {x y:Int} (hh:a.block<W.heap.size) (hs:V.cell? a=some (.int .i64 x)∧V.cell? ⟨a.block,a.off+1,none⟩=some (.int .i64 y)∧Below W.heap.size W V) (hb:Below V.heap.size V V'):
 V'.cell? a=some (.int .i64 x)∧V'.cell? ⟨a.block,a.off+1,none⟩=some (.int .i64 y)∧Below W.heap.size W V':=by
 have:=hs.2.2.size
 exact⟨(hb.cell (by omega)).trans hs.1,(hb.cell (by simp only;omega)).trans hs.2.1,below_on hs.2.2 (Nat.le_refl _) hb⟩
set_option maxRecDepth 100000 in
set_option maxHeartbeats 1600000 in
theorem around_any (xs:List Pt) (A:Option Addr) (n cap:Nat) (w:World) (hr:Reads w w.heap.size 2 A n (ptsV xs)) (h1:1≤n) (hn:n≤128):
 Calls Tryz.prog 155 #[.slice A n cap] w fun e w'=>e= .returned (winV (aroW xs n))∧Below w.heap.size w w':=by
 obtain⟨ad,rfl,hbd,-,-,-⟩:=hr.pt (k:=0) (by omega)
 have hb0:=(Below.refl w.heap.size w).alloc (Nat.le_refl _) (.cells #[.int .i64 0,.int .i64 0,.int .i64 0,.int .i64 0] 100)
 obtain⟨-,p1,p2⟩:=(hr.below hb0).ptA (k:=0) (by omega)
 have hz0:(0:Int)<(n:Int):=by omega
 have bR:WinK (w.alloc (.cells #[.int .i64 0,.int .i64 0,.int .i64 0,.int .i64 0] 100)) w.heap.size ⟨0,0,0,0⟩:=Blk.new w _ _
 rw[Nat.zero_mul,show ad.add 0=ad from by simp[Addr.add]]at p1 p2
 have hz1:0<n:=by omega
 have HRD:=Lib.hid hr
 clear hr
 go_enter Tryz.func155,Tryz.ntmps155
 go_wp2_with fail
 have hw0:aroW xs 0=⟨(ptAt xs 0).x,(ptAt xs 0).y,(ptAt xs 0).x,(ptAt xs 0).y⟩:=rfl
 generalize (ptAt xs 0).x=x0 at *
 generalize (ptAt xs 0).y=y0 at *
 generalize w.alloc (.cells #[.int .i64 0,.int .i64 0,.int .i64 0,.int .i64 0] 100)=W at *
 have hH0:W.drew.cell? ad=some (.int .i64 x0)∧W.drew.cell? ⟨ad.block,ad.off+1,none⟩=some (.int .i64 y0)∧Below W.heap.size W W.drew:=⟨p1,p2,(Below.refl _ _).drew⟩
 have hP:ad.block<W.heap.size:=by have:=hb0.size;omega
 have HW:=Lib.hid (And.intro bR (And.intro hb0 hw0))
 clear bR hb0 hw0 p1 p2
 go_region_held3 (fun V=>V.cell? ad=some (.int .i64 x0)∧V.cell? ⟨ad.block,ad.off+1,none⟩=some (.int .i64 y0)∧Below W.heap.size W V)
  (first|with_reducible exact hH0|with_reducible exact heldA2 hP (by assumption) ((Below.refl _ _).alloc (Nat.le_refl _) _)|exact heldA2 hP hH0 (show Below W.drew.heap.size W.drew (World.drew (W.alloc _)) from(Below.refl W.drew.heap.size W.drew).alloc (Nat.le_refl _) _))
  (fail)
 have hB0:=(HW.out.2.1.alloc HW.out.2.1.size (.cells #[.int .i64 x0,.int .i64 y0,.int .i64 x0,.int .i64 y0] 100)).drew
 have hR0:WinK (W.alloc (.cells #[.int .i64 x0,.int .i64 y0,.int .i64 x0,.int .i64 y0] 100)).drew w.heap.size ⟨0,0,0,0⟩:=Blk.alloc HW.out.1 _
 have hV0:WinK (W.alloc (.cells #[.int .i64 x0,.int .i64 y0,.int .i64 x0,.int .i64 y0] 100)).drew W.heap.size (aroW xs 0):=by rw[HW.out.2.2];exact Blk.new W _ _
 have hgg:w.heap.size<W.heap.size:=Blk.lt HW.out.1
 generalize (W.alloc (.cells #[.int .i64 x0,.int .i64 y0,.int .i64 x0,.int .i64 y0] 100)).drew=V0 at *
 clear hH0 hP HW
 generalize W.heap.size=g at *
 go_wp2_with fail
 go_loopw [15] (fun i wr=>∃k:Nat,k≤n∧i= .int .i64 (k:Int)∧Below w.heap.size w wr∧WinK wr w.heap.size ⟨0,0,0,0⟩∧WinK wr g (aroW xs k)) (fun i _=>n-(intOf i).toNat)
 case atStart=>exact⟨0,Nat.zero_le _,rfl,hB0,hR0,hV0⟩
 case round=>
  clear hB0 hR0 hV0
  obtain⟨k,hk,rfl,hbel,hR,hV⟩:=hrel
  by_cases hlt:k<n
  ·have hlt':(k:Int)<(n:Int):=by omega
   have hw1:IntKind.i64.wrap ((k:Int)+1)=(k:Int)+1:=by rw[IntKind.wrap_i64];omega
   obtain⟨-,p1,p2⟩:=(HRD.out.below hbel).ptA hlt
   have hst:aroW xs (k+1)=⟨mn (aroW xs k).lx (ptAt xs k).x,mn (aroW xs k).ly (ptAt xs k).y,mx (aroW xs k).hx (ptAt xs k).x,mx (aroW xs k).hy (ptAt xs k).y⟩:=rfl
   unfold mn mx at hst
   generalize aroW xs k=v at *
   generalize (ptAt xs k).x=px at *
   generalize (ptAt xs k).y=py at *
   obtain⟨X1,hX1⟩:∃X,(if px<v.lx then px else v.lx)=X:=⟨_,rfl⟩
   obtain⟨X2,hX2⟩:∃X,(if py<v.ly then py else v.ly)=X:=⟨_,rfl⟩
   obtain⟨X3,hX3⟩:∃X,(if v.hx<px then px else v.hx)=X:=⟨_,rfl⟩
   obtain⟨X4,hX4⟩:∃X,(if v.hy<py then py else v.hy)=X:=⟨_,rfl⟩
   rw[hX1,hX2,hX3,hX4]at hst
   have HS:=Lib.hid hst
   have HB:=Lib.hid (And.intro hbel (And.intro hR hV))
   obtain⟨⟨v1,v2,v3,v4⟩,⟨f1,f2,f3,f4⟩,hgl⟩:=hV.facts
   clear hst hbel hR hV
   go_wp2_with fail
   go_roundw
   case rel=>exact⟨k+1,by omega,by go_num,(below_put4 HB.out.1 (by omega) _ _ _ _).alloc (by simp;have:=HB.out.1.size;omega) _,Blk.alloc (WinK.far4 HB.out.2.1 (by omega) _ _ _ _) _,by rw[HS.out];exact Blk.alloc (HB.out.2.2.put ⟨X1,X2,X3,X4⟩) _⟩
   case measure=>simp[intOf];omega
  ·have hkn:k=n:=by omega
   subst hkn
   obtain⟨v,hvv⟩:∃v,v=aroW xs k:=⟨_,rfl⟩
   rw[←hvv]at hV
   have HVV:=Lib.hid hvv
   clear hvv
   obtain⟨⟨v1,v2,v3,v4⟩,⟨f1,f2,f3,f4⟩,hgl⟩:=hV.facts
   obtain⟨⟨u1,u2,u3,u4⟩,⟨e1,e2,e3,e4⟩,hrl⟩:=hR.facts
   obtain⟨⟨q1,q2,q3,q4⟩,-,-⟩:=(hR.put v).facts
   have HB:=Lib.hid (And.intro hbel hR)
   clear hbel hR hV
   go_wp2_with fail
   exact bodyPost_ret (v:=winV v) (by unfold winV;simp[results,Tryz.results155,go_sem,q1,q2,q3,q4]) rfl ⟨by rw[HVV.out],below_put4 HB.out.1 (Nat.le_refl _) _ _ _ _⟩
def NumPost (xs:List UInt8) (at_ size:Int) (w:World) (e:Ending) (w':World):Prop:=e= .returned (.tuple #[.int .i64 (numR xs at_ size).1,.int .i64 (numR xs at_ size).2])∧w=w'
theorem numR_arg {xs:List UInt8} {at_ size:Int} (h:size<1∨7<size∨at_<0):numR xs at_ size=(0,1):=by unfold numR;rw[if_pos h]
theorem numR_short {xs:List UInt8} {at_ size:Int} (h:¬(size<1∨7<size∨at_<0)) (h2:(xs.length:Int)<at_∨xs.length-at_<size):numR xs at_ size=(0,14):=by unfold numR;rw[if_neg h,if_pos h2]
theorem numR_ok {xs:List UInt8} {k s:Nat} (h1:1≤s) (h2:s≤7) (h3:k+s≤xs.length):numR xs k s=(((numL ((xs.drop k).take s):Nat):Int),0):=by
 unfold numR
 rw[if_neg (by omega),if_neg (by omega)]
 rfl
theorem NumPost.arg {xs:List UInt8} {at_ size:Int} {w:World} (h:size<1∨7<size∨at_<0):NumPost xs at_ size w (.returned (.tuple #[.int .i64 0,.int .i64 1])) w:=⟨by rw[numR_arg h],rfl⟩
theorem NumPost.short {xs:List UInt8} {at_ size:Int} {w:World} (h:¬(size<1∨7<size∨at_<0)) (h2:(xs.length:Int)<at_∨xs.length-at_<size):NumPost xs at_ size w (.returned (.tuple #[.int .i64 0,.int .i64 14])) w:=⟨by rw[numR_short h h2],rfl⟩
/-- One byte more: shifted and joined. -/
theorem byte_more (a x:Nat) (ha:a<281474976710656) (hx:x<256):bits .or .i64 ((a:Int)*256) (x:Int)=((a*256+x:Nat):Int):=by
 have h:=i64_or_nat (a*256) x (by omega) (by omega)
 rw[nat_join 8 (a*256) x (by omega) hx]at h
 rw[←h]
 congr 1
set_option maxHeartbeats 400000 in
theorem num_any (xs:List UInt8) (A:Option Addr) (n cap:Nat) (at_ size:Int) (w:World) (hr:Reads w w.heap.size 1 A n (u8s xs)) (hc:n≤cap) (hn:cap≤9223372036854775807)
 (ha1: -9223372036854775808≤at_) (ha2:at_≤9223372036854775807):
 Calls Tryz.prog 61 #[.slice A n cap,.int .i64 at_,.int .i64 size] w (NumPost xs at_ size w):=by
 have hl:=hr.len8
 by_cases h1:size<1
 ·go_enter Tryz.func61,Tryz.ntmps61
  go_wp2
  go_ret2
  exact NumPost.arg (by omega)
 by_cases h2:7<size
 ·go_enter Tryz.func61,Tryz.ntmps61
  go_wp2
  go_ret2
  exact NumPost.arg (by omega)
 by_cases h3:at_<0
 ·go_enter Tryz.func61,Tryz.ntmps61
  go_wp2
  go_ret2
  exact NumPost.arg (by omega)
 by_cases h4:(n:Int)<at_
 ·go_enter Tryz.func61,Tryz.ntmps61
  go_wp2
  go_ret2
  exact NumPost.short (by omega) (by omega)
 by_cases h5:n-at_<size
 ·go_enter Tryz.func61,Tryz.ntmps61
  go_wp2
  go_ret2
  exact NumPost.short (by omega) (by omega)
 obtain⟨k,rfl⟩:=Int.eq_ofNat_of_zero_le (a:=at_) (by omega)
 obtain⟨s,rfl⟩:=Int.eq_ofNat_of_zero_le (a:=size) (by omega)
 obtain⟨ad,rfl,hb,hcell⟩:=hr.2 (by omega)
 go_enter Tryz.func61,Tryz.ntmps61
 go_wp2
 go_loop [8,40] (fun v i=>∃(j a:Nat),j≤s∧Hid (a=numL (((xs.drop k).take s).take j))∧i= .int .i64 j∧v= .int .i64 (a:Int)) (fun _ i=>s-(intOf i).toNat)
 case atStart=>exact⟨0,0,Nat.zero_le _,rfl,rfl,rfl⟩
 case round=>
  obtain⟨j,a,hj,hA,rfl,rfl⟩:=hrel
  by_cases hlt:j<s
  ·have hsl:((xs.drop k).take s).length=s:=by simp;omega
   have hjl:j<((xs.drop k).take s).length:=by omega
   have hx:((xs.drop k).take s)[j]=xs[k+j]'(by omega):=by simp
   have hcl:w.cell? ((ad.add k).add j)=some (.int .u8 ((xs[k+j]'(by omega)).toNat:Int)):=by
    rw[add_of_add]
    exact hcell _ _ (by simp[u8s,List.getElem?_eq_getElem (show k+j<xs.length by omega)])
   have hts:=numL_take _ _ hjl
   rw[hx]at hts
   have hbnd:a<281474976710656:=by
    have h1:=numL_lt (((xs.drop k).take s).take j)
    rw[←hA.out]at h1
    have h2:(((xs.drop k).take s).take j).length=j:=by rw[List.length_take];omega
    rw[h2]at h1
    have h3:256^j≤256^6:=Nat.pow_le_pow_right (by omega) (by omega)
    omega
   obtain⟨x,hx'⟩:∃x:Nat,x=(xs[k+j]'(by omega)).toNat:=⟨_,rfl⟩
   have hxb:x<256:=by rw[hx'];exact UInt8.toNat_lt _
   rw[←hx']at hcl hts
   clear hx hx'
   have hm:=byte_more a x hbnd hxb
   rw[←hA.out]at hts
   have HT:=Lib.hid hts
   clear hts hcell hr hjl hsl
   go_wp2
   go_round
   case rel=>exact⟨j+1,a*256+x,by omega,HT.out.symm,by go_num,by go_num⟩
   case measure=>simp[intOf];omega
  ·have H:a=numL ((xs.drop k).take s):=by
    have:=hA.out
    rwa [show j=s by omega,List.take_of_length_le (i:=s) (by simp;omega)]at this
   have HH:=Lib.hid H
   clear H
   go_wp2
   go_ret2
   refine⟨?_,rfl⟩
   rw[numR_ok (by omega) (by omega) (by omega),←HH.out]
   rfl
end Go.Proofs.YtpkeacnacjnlcaaGreat
