/- What lies beside GeoLaw; Plain law: all cells of a window, by X, then by Y. No condition; Windows: Check, Has and their references: the walks; grid.cell, merestoneref02.cell: the walks; A []byte argument opened as a list of bytes. -/
import Derived.Test.YtpkeacnacjnlcaaGreatK01
import Derived.Test.YtpkeacnacjnlcaaGreatK02
import Derived.Test.YtpkeacnacjnlcaaGreatK03
import Derived.Test.YtpkeacnacjnlcaaGreatK04
namespace Go.Proofs.YtpkeacnacjnlcaaGreat
/-- A point of the stretch, as a fraction of its way, lies in the window. -/
def Hit (w:Win) (a b:Pt):Prop:=
 ∃N t:Int,0<N∧0≤t∧t≤N∧N*w.lx≤(N-t)*a.x+t*b.x∧(N-t)*a.x+t*b.x≤N*w.hx∧N*w.ly≤(N-t)*a.y+t*b.y∧(N-t)*a.y+t*b.y≤N*w.hy
end Go.Proofs.YtpkeacnacjnlcaaGreat
namespace Go.Proofs.YtpkeacnacjnlcaaGreat
open Go.RowKit
end Go.Proofs.YtpkeacnacjnlcaaGreat
namespace Go.Proofs.YtpkeacnacjnlcaaGreat
theorem HitE.hit {w:Win} {a b:Pt} (h:HitE a.x a.y b.x b.y w.lx w.ly w.hx w.hy):Hit w a b:=by
 obtain⟨N,t,g1,g2,g3,⟨g4,g5,g6,g7⟩,_⟩:=h
 exact⟨N,t,g1,g2,g3,g4,g5,g6,g7⟩
theorem Touch.swap {a b c d:Pt} (h:Touch a b d c):Touch a b c d:=by
 unfold Touch at *
 rw[onB_swap c d a,onB_swap c d b]
 rcases h with h|h|h|h|h
 ·exact .inl h
 ·exact .inr (.inl h)
 ·exact .inr (.inr (.inr (.inl h)))
 ·exact .inr (.inr (.inl h))
 ·refine .inr (.inr (.inr (.inr ?_)))
  rw[prB_iff]at h ⊢
  rw[cr_swapT c d a,cr_swapT c d b]at h
  omega
/-- The first m cells of one column, from y0 on. -/
def colL (x y0:Int) (m:Nat):List Pt:=(List.range m).map fun(j:Nat)=>⟨x,y0+(j:Int)⟩
/-- The first n columns, each of m cells. -/
def spanR (x0 y0:Int) (m n:Nat):List Pt:=(List.range n).flatMap fun(i:Nat)=>colL (x0+(i:Int)) y0 m
theorem colL_succ (x y0:Int) (m:Nat):colL x y0 (m+1)=colL x y0 m++[⟨x,y0+(m:Int)⟩]:=by simp[colL,List.range_succ]
theorem spanR_succ (x0 y0:Int) (m n:Nat):spanR x0 y0 m (n+1)=spanR x0 y0 m n++colL (x0+(n:Int)) y0 m:=by simp[spanR,List.range_succ]
theorem colL_length (x y0:Int) (m:Nat):(colL x y0 m).length=m:=by simp[colL]
theorem spanR_length (x0 y0:Int) (m n:Nat):(spanR x0 y0 m n).length=n*m:=by
 induction n with
 |zero=>simp[spanR]
 |succ n ih=>rw[spanR_succ,List.length_append,ih,colL_length,Nat.succ_mul]
/-- One column as the reference goes through it: of the cells from -4 on those between y0 and y1. -/
def colF (x y0 y1:Int) (b:Bool) (m:Nat):List Pt:=((List.range m).filter fun(j:Nat)=>b&&decide (y0≤ -4+(j:Int)∧ -4+(j:Int)≤y1)).map fun(j:Nat)=>⟨x,-4+(j:Int)⟩
def spanF (x0 x1 y0 y1:Int) (n:Nat):List Pt:=(List.range n).flatMap fun(i:Nat)=>colF (-4+(i:Int)) y0 y1 (decide (x0≤ -4+(i:Int)∧ -4+(i:Int)≤x1)) 9
theorem colF_succ (x y0 y1:Int) (b:Bool) (m:Nat):colF x y0 y1 b (m+1)=colF x y0 y1 b m++(if (b&&decide (y0≤ -4+(m:Int)∧ -4+(m:Int)≤y1))=true then[⟨x,-4+(m:Int)⟩]else[]):=by
 unfold colF
 rw[List.range_succ,List.filter_append,List.map_append]
 congr 1
 rw[List.filter_cons]
 split<;>simp
theorem spanF_succ (x0 x1 y0 y1:Int) (n:Nat):spanF x0 x1 y0 y1 (n+1)=spanF x0 x1 y0 y1 n++colF (-4+(n:Int)) y0 y1 (decide (x0≤ -4+(n:Int)∧ -4+(n:Int)≤x1)) 9:=by simp[spanF,List.range_succ]
theorem colF_false (x y0 y1:Int) (m:Nat):colF x y0 y1 false m=[]:=by simp[colF]
/-- The numbers from a to b, out of the first nine. -/
theorem filt (a b:Nat) (hab:a≤b) (hb:b≤8):((List.range 9).filter fun j=>decide (a≤j∧j≤b))=(List.range (b-a+1)).map fun j=>a+j:=by
 have h:∀b,b<9→∀a,a<9→a≤b→((List.range 9).filter fun j=>decide (a≤j∧j≤b))=(List.range (b-a+1)).map fun j=>a+j:=by decide
 exact h b (by omega) a (by omega) hab
theorem colF_true (x y0 y1:Int) (h0: -4≤y0) (h1:y1≤4) (h:y0≤y1):colF x y0 y1 true 9=colL x y0 (y1-y0+1).toNat:=by
 obtain⟨a,ha⟩:∃a:Nat,(a:Int)=y0+4:=⟨(y0+4).toNat,by omega⟩
 obtain⟨b,hb⟩:∃b:Nat,(b:Int)=y1+4:=⟨(y1+4).toNat,by omega⟩
 have hf:=filt a b (by omega) (by omega)
 unfold colF colL
 have e1:((List.range 9).filter fun(j:Nat)=>true&&decide (y0≤ -4+(j:Int)∧ -4+(j:Int)≤y1))=(List.range 9).filter fun j=>decide (a≤j∧j≤b):=by
  congr 1
  funext j
  rw[Bool.true_and]
  congr 1
  exact propext ⟨fun ⟨p,q⟩=>⟨by omega,by omega⟩,fun⟨p,q⟩=>⟨by omega,by omega⟩⟩
 rw[e1,hf,show(y1-y0+1).toNat=b-a+1 from by omega,List.map_map]
 congr 1
 funext j
 simp only[Function.comp]
 congr 1
 omega
theorem spanF_eq (x0 x1 y0 y1:Int) (hx0: -4≤x0) (hx1:x1≤4) (hx:x0≤x1) (hy0: -4≤y0) (hy1:y1≤4) (hy:y0≤y1):spanF x0 x1 y0 y1 9=spanR x0 y0 (y1-y0+1).toNat (x1-x0+1).toNat:=by
 obtain⟨a,ha⟩:∃a:Nat,(a:Int)=x0+4:=⟨(x0+4).toNat,by omega⟩
 obtain⟨b,hb⟩:∃b:Nat,(b:Int)=x1+4:=⟨(x1+4).toNat,by omega⟩
 have hc:=fun x=>colF_true x y0 y1 hy0 hy1 hy
 generalize (y1-y0+1).toNat=m at hc ⊢
 rw[show (x1-x0+1).toNat=b-a+1 from by omega]
 have key:∀n,n≤9→spanF x0 x1 y0 y1 n=spanR x0 y0 m (min n (b+1)-a):=by
  intro n
  induction n with
  |zero=>intro _;simp[spanF,spanR]
  |succ n ih=>
   intro hn
   rw[spanF_succ,ih (by omega)]
   by_cases h1:n<a
   ·rw[decide_eq_false (by omega),colF_false,List.append_nil,show min n (b+1)-a=0 from by omega,show min (n+1) (b+1)-a=0 from by omega]
   ·by_cases h2:n≤b
    ·rw[decide_eq_true (by omega),hc,show min n (b+1)-a=n-a from by omega,show min (n+1) (b+1)-a=(n-a)+1 from by omega,spanR_succ]
     rw[show x0+((n-a:Nat):Int)= -4+(n:Int) from by omega]
    ·rw[decide_eq_false (by omega),colF_false,List.append_nil,show min n (b+1)-a=b+1-a from by omega,show min (n+1) (b+1)-a=b+1-a from by omega]
 rw[key 9 (Nat.le_refl _),show min 9 (b+1)-a=b-a+1 from by omega]
end Go.Proofs.YtpkeacnacjnlcaaGreat
namespace Go.Proofs.YtpkeacnacjnlcaaGreat
open Go.RowKit
theorem win_cases (a b c d:Int):(goodL [⟨a,b⟩,⟨c,d⟩]=false∧winE ⟨a,b,c,d⟩=3)∨(goodL [⟨a,b⟩,⟨c,d⟩]=true∧c<a∧winE ⟨a,b,c,d⟩=1)∨(goodL [⟨a,b⟩,⟨c,d⟩]=true∧a≤c∧d<b∧winE ⟨a,b,c,d⟩=1)∨(goodL [⟨a,b⟩,⟨c,d⟩]=true∧a≤c∧b≤d∧winE ⟨a,b,c,d⟩=0):=by
 unfold winE Win.low Win.high
 simp only
 rcases hg:goodL [⟨a,b⟩,⟨c,d⟩]with _|_
 ·left;exact⟨rfl,by simp⟩
 ·right
  simp only[if_true]
  by_cases h1:c<a
  ·left;exact⟨trivial,h1,by rw[if_pos (.inl h1)]⟩
  ·by_cases h2:d<b
   ·right;left;exact⟨trivial,by omega,h2,by rw[if_pos (.inr h2)]⟩
   ·right;right;exact⟨trivial,by omega,by omega,by rw[if_neg (by omega)]⟩
set_option maxHeartbeats 400000 in
theorem wcheck_any (wi:Win) (w:World) (hw:wi.inI):
 Calls Tryz.prog 184 #[winV wi] w fun e w'=>e= .returned (.int .i64 (winE wi))∧Below w.heap.size w w':=by
 have hpts:∀p∈[wi.low,wi.high],p.inI:=by simpa[Win.inI]using hw
 obtain⟨a,b,c,d⟩:=wi
 have hcase:=win_cases a b c d
 unfold Win.low Win.high at hpts
 simp only at hpts
 rcases hcase with ⟨hg,hE⟩|⟨hg,h1,hE⟩|⟨hg,h1,h2,hE⟩|⟨hg,h1,h2,hE⟩
 all_goals
  have HG:=Lib.hid hg
  rw[hE]
  clear hg hE
  unfold winV
  go_enter Tryz.func184,Tryz.ntmps184
  go_wp2_with fail
  refine(good_any [⟨a,b⟩,⟨c,d⟩] _ 2 2 _ ?hq (by omega) hpts).mono ?_
  case hq=>exact reads_two _ a b c d _ _ (by simp)
  rintro e w1 ⟨rfl,hb1⟩
  rw[HG.out]
  obtain⟨hc,hf⟩:=bcell hb1
  have HB:=Lib.hid hb1
  clear hb1 hf
  go_wp2_with fail
  go_ret
  exact⟨rfl,(((Below.refl w.heap.size w).alloc (Nat.le_refl _) _).alloc (by simp) _).trans (HB.out.mono (by simp;omega))⟩
theorem cell_any (n:Int) (w:World):
 Calls Tryz.prog 185 #[.int .i64 n] w fun e w'=>e= .returned (.int .i64 (n/268435456))∧w=w':=by
 go_enter Tryz.func185,Tryz.ntmps185
 go_wp2_with fail
 go_ret
 exact⟨rfl,rfl⟩
theorem tdiv_neg (n:Int) (h:n<0):n.tdiv 268435456= -((-n)/268435456):=by
 have h1:n.tdiv 268435456= -((-n).tdiv 268435456):=by rw[Int.neg_tdiv];omega
 rw[h1,Int.tdiv_eq_ediv_of_nonneg (by omega)]
theorem tmod_neg (n:Int) (h:n<0):n.tmod 268435456= -((-n)%268435456):=by
 have h1:n.tmod 268435456= -((-n).tmod 268435456):=by rw[Int.neg_tmod];omega
 rw[h1,Int.tmod_eq_emod_of_nonneg (by omega)]
theorem cellR_any (n:Int) (w:World) (h1: -9223372036854775808≤n) (h2:n≤9223372036854775807):
 Calls Tryz.prog 100 #[.int .i64 n] w fun e w'=>e= .returned (.int .i64 (n/268435456))∧w=w':=by
 by_cases h:n<0
 ·have e1:=tdiv_neg n h
  have e2:=tmod_neg n h
  by_cases hm:(-n)%268435456=0
  ·have hb:(n.tmod 268435456 != 0)=false:=by rw[e2,hm];rfl
   have E1:=Lib.hid e1
   have HM:=Lib.hid hm
   clear e1 e2 hm
   go_enter Tryz.func100,Tryz.ntmps100
   go_wp2_with fail
   go_ret
   refine⟨?_,rfl⟩
   show Ending.returned (.int .i64 (n.tdiv 268435456))=_
   rw[E1.out]
   have:=HM.out
   rw[show -(-n/268435456)=n/268435456 from by omega]
  ·have hb:(n.tmod 268435456 != 0)=true:=by rw[e2];simp;omega
   have E1:=Lib.hid e1
   have HM:=Lib.hid hm
   clear e1 e2 hm
   go_enter Tryz.func100,Tryz.ntmps100
   go_wp2_with fail
   go_ret
   refine⟨?_,rfl⟩
   show Ending.returned (.int .i64 (wrap64 (n.tdiv 268435456-1)))=_
   rw[E1.out]
   have:=HM.out
   rw[show wrap64 (-(-n/268435456)-1)=n/268435456 from by unfold wrap64;omega]
 ·have h0:0≤n:=by omega
  clear h
  go_enter Tryz.func100,Tryz.ntmps100
  go_wp2_with fail
  go_ret
  exact⟨rfl,rfl⟩
end Go.Proofs.YtpkeacnacjnlcaaGreat
namespace Go.Proofs.YtpkeacnacjnlcaaGreat
open Go.RowKit Go.WideShapes Go.ChangeShapes Go.Deep Go.ChangeAt
section
variable {H:Type} {enc:TypeId×Value→H} {P:Program}
theorem wf_u8 {z:Int} (h:(Lit.int .u8 z).wf=true):(((UInt8.ofNat z.toNat).toNat:Nat):Int)=z:=by
 have h1:IntKind.u8.min=0:=rfl
 have h2:IntKind.u8.max=255:=rfl
 simp only[Lit.wf,Bool.and_eq_true,decide_eq_true_eq,h1,h2]at h
 rw[UInt8.toNat_ofNat']
 omega
theorem open_bytes {t e:TypeId} {W:World} {base:Nat} {v:Value} {d:DataW H} {ps:List MemPlace} (ht:P.underlying t=some (.slice e)) (he:P.underlying e=some (.int .u8)) (hc:P.cellsOf e=1) (hby:P.bytesOf e=1)
 (hv:Value.okWide P W .any base t v) (h:DataW.Trod enc P W 0 (fun _=>true) true t v d ps)
 (hs:∀elems spare:List (DataW H),d= .slice elems spare→(elems.length+spare.length)*P.bytesOf e≤reachBytes):
 ∃(xs:List UInt8) (A:Option Addr) (cap:Nat),v= .slice A xs.length cap∧Reads W W.heap.size 1 A xs.length (u8s xs)∧xs.length≤140737488351232∧xs.length≤cap∧cap≤9223372036854775807:=by
 obtain⟨a0,len,cap,rfl⟩:=okWide_slice ht hv
 obtain⟨fuel,hf⟩:=h
 rcases open_ints ht he hc hf with ⟨hcs,hx⟩|⟨a,len',cap',zs,hcs,_,hl,hm,hz,hx,hcell,hwz⟩
 ·simp[Value.cells]at hcs
  obtain⟨rfl,rfl,rfl⟩:=hcs
  exact⟨[],none,0,rfl,Reads.none_,by simp,by simp,by simp⟩
 ·simp[Value.cells]at hcs
  obtain⟨rfl,rfl,rfl⟩:=hcs
  simp only[Prod.mk.injEq]at hx
  have hzl:zs.length=cap:=by simpa using hz
  have hlen:((zs.take len).map fun z=>UInt8.ofNat z.toNat).length=len:=by simp;omega
  refine⟨(zs.take len).map fun z=>UInt8.ofNat z.toNat,some a,cap,by rw[hlen],?_,?_,by rw[hlen];exact hl,hm⟩
  ·rw[hlen]
   refine⟨by rw[u8s_length,hlen];omega,fun hn=>⟨a,rfl,?_,?_⟩⟩
   ·have:=hcell 0 (by omega)
    have:=cell_lt this
    rwa [block_of_add]at this
   ·intro j u hu
    obtain⟨hj,rfl⟩:=u8s_get hu
    rw[hlen]at hj
    rw[hcell j (by omega)]
    have hg:zs.getD j 0=zs[j]'(by omega):=by rw[List.getD_eq_getElem?_getD,List.getElem?_eq_getElem (by omega)];rfl
    rw[hg]
    simp only[List.getElem_map,List.getElem_take]
    rw[wf_u8 (hwz _ (List.getElem_mem _))]
  ·rw[hlen]
   have:=hs _ _ hx.1
   rw[hby]at this
   simp only[lits,List.length_map,List.length_take,List.length_drop,reachBytes]at this
   omega
end
theorem Tryz.cells_u8:Tryz.prog.cellsOf 5=1:=by kernel_rfl
theorem Tryz.bytes_u8:Tryz.prog.bytesOf 5=1:=by kernel_rfl
end Go.Proofs.YtpkeacnacjnlcaaGreat
