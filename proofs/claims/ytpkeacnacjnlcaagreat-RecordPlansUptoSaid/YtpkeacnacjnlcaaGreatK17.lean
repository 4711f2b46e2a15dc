/- plan.Check: the walk; Items in memory: to read, and of the call's own; slices.SortFunc of parcels, by their numbers: laid off the shelf, and the order's walk; merestonelaw14.point, few: the walks; plan.Each: words, and the plain law of it. -/
import Derived.Test.YtpkeacnacjnlcaaGreatK03
import Derived.Test.YtpkeacnacjnlcaaGreatK09
import Derived.Test.YtpkeacnacjnlcaaGreatK10
import Derived.Test.YtpkeacnacjnlcaaGreatK11
import Derived.Test.YtpkeacnacjnlcaaGreatK15
namespace Go.Proofs.YtpkeacnacjnlcaaGreat
open Go.RowKit
set_option maxHeartbeats 1600000 in
theorem checkPl_any (p:Plan) (A A':Option Addr) (n c n' c':Nat) (w:World) (h:PlanAt w w.heap.size A n c A' n' c' p):
 Calls Tryz.prog 47 #[planV A n c A' n' c'] w fun e w'=>e= .returned (.int .i64 (planE p))∧Below w.heap.size w w':=by
 obtain⟨hl1,hl2,hl3,hl4⟩:=h.lens
 obtain⟨b5,h5⟩:∃b5:Bool,b5=true↔PairsE (allE p.parcels):=by
  by_cases hq:PairsE (allE p.parcels)
  ·exact⟨true,by simp[hq]⟩
  ·exact⟨false,by simp[hq]⟩
 have hE:=planE_eq p b5 h5
 have k1:∀V,Below w.heap.size w V→_:=fun V hV=>listed_any p A A' n c n' c' V (h.on hV)
 have k2:∀V,Below w.heap.size w V→_:=fun V hV=>normed_any p.outer A n c V (h.on hV).outer h.oc.1 hl3 h.fits.1.2
 have k3:∀V,Below w.heap.size w V→_:=fun V hV=>containsC1_any p.parcels A' n' c' V (h.on hV).parcs hl4 h.fits.2.2
 have k4:∀V,Below w.heap.size w V→_:=fun V hV=>matched_any p A A' n c n' c' V (h.on hV)
 have k5:listedB p=true→(p.parcels.any fun x=>!normB x.ring)=false→matchB p=true→∀V,Below w.heap.size w V→_:=fun g1 g2 g3 V hV=>clean_any p A A' n c n' c' V (h.on hV) (pre_of g1 (any_norm.1 g2) (matchB_iff.1 g3)) b5 h5
 have k6:listedB p=true→normB p.outer=true→(p.parcels.any fun x=>!normB x.ring)=false→∀V,Below w.heap.size w V→_:=fun g1 g2 g3 V hV=>whole2_any p A A' n c n' c' V (h.on hV) (by rw[←hl2];exact(listed_bd g1).2.1) (areas_of (normB_iff.1 g2) (any_norm.1 g3)).1 (areas_of (normB_iff.1 g2) (any_norm.1 g3)).2
 have H:=Lib.hid (And.intro ((Below.refl w.heap.size w).alloc (Nat.le_refl _) (.cells #[.slice A n c,.slice A' n' c'] 30)) (PlK.new w A n c A' n' c'))
 clear h hl1 hl2 hl3 hl4 h5
 generalize planE p=pe at *
 generalize listedB p=b1 at *
 generalize normB p.outer=b2 at *
 generalize (p.parcels.any fun x=>!normB x.ring)=b3 at *
 generalize matchB p=b4 at *
 generalize decide (areasL p.parcels=areaZ p.outer)=b6 at *
 have HE:=Lib.hid hE
 have K1:=Lib.hid k1
 have K2:=Lib.hid k2
 have K3:=Lib.hid k3
 have K4:=Lib.hid k4
 have K5:=Lib.hid k5
 have K6:=Lib.hid k6
 clear hE k1 k2 k3 k4 k5 k6
 obtain⟨q1,q2,-⟩:=H.out.2.facts
 go_enter Tryz.func47,Tryz.ntmps47
 go_wp2_with fail
 refine(K1.out _ H.out.1).mono ?_
 rintro e w1 ⟨rfl,hb⟩
 have H1:=Lib.hid (And.intro (below_on H.out.1 (Nat.le_refl _) hb) (H.out.2.on hb))
 clear hb H q1 q2
 obtain⟨q1,q2,-⟩:=H1.out.2.facts
 rcases b1 with _|_
 ·go_wp2_with fail
  go_ret
  exact⟨by rw[HE.out];rfl,H1.out.1⟩
 go_wp2_with fail
 refine(K2.out _ H1.out.1).mono ?_
 rintro e w2 ⟨rfl,hb⟩
 have H2:=Lib.hid (And.intro (below_on H1.out.1 (Nat.le_refl _) hb) (H1.out.2.on hb))
 clear hb H1 q1 q2
 obtain⟨q1,q2,-⟩:=H2.out.2.facts
 rcases b2 with _|_
 ·go_wp2_with fail
  go_ret
  exact⟨by rw[HE.out];rfl,H2.out.1⟩
 go_wp2_with fail
 refine(K3.out _ H2.out.1).mono ?_
 rintro e w3 ⟨rfl,hb⟩
 have H3:=Lib.hid (And.intro (below_on H2.out.1 (Nat.le_refl _) hb) (H2.out.2.on hb))
 clear hb H2 q1 q2
 obtain⟨q1,q2,-⟩:=H3.out.2.facts
 rcases b3 with _|_
 rotate_left
 ·go_wp2_with fail
  go_ret
  exact⟨by rw[HE.out];rfl,H3.out.1⟩
 go_wp2_with fail
 refine(K4.out _ H3.out.1).mono ?_
 rintro e w4 ⟨rfl,hb⟩
 have H4:=Lib.hid (And.intro (below_on H3.out.1 (Nat.le_refl _) hb) (H3.out.2.on hb))
 clear hb H3 q1 q2
 obtain⟨q1,q2,-⟩:=H4.out.2.facts
 rcases b4 with _|_
 ·go_wp2_with fail
  go_ret
  exact⟨by rw[HE.out];rfl,H4.out.1⟩
 go_wp2_with fail
 refine(K5.out (by simp) (by simp) (by simp) _ H4.out.1).mono ?_
 rintro e w5 ⟨rfl,hb⟩
 have H5:=Lib.hid (And.intro (below_on H4.out.1 (Nat.le_refl _) hb) (H4.out.2.on hb))
 clear hb H4 q1 q2
 obtain⟨q1,q2,-⟩:=H5.out.2.facts
 rcases b5 with _|_
 ·go_wp2_with fail
  go_ret
  exact⟨by rw[HE.out];rfl,H5.out.1⟩
 go_wp2_with fail
 refine(K6.out (by simp) (by simp) (by simp) _ H5.out.1).mono ?_
 rintro e w6 ⟨rfl,hb⟩
 have H6:=Lib.hid (And.intro (below_on H5.out.1 (Nat.le_refl _) hb) (H5.out.2.on hb))
 clear hb H5 q1 q2
 obtain⟨q1,q2,-⟩:=H6.out.2.facts
 rcases b6 with _|_
 ·go_wp2_with fail
  go_ret
  exact⟨by rw[HE.out];rfl,H6.out.1⟩
 ·go_wp2_with fail
  go_ret
  exact⟨by rw[HE.out];rfl,H6.out.1⟩
end Go.Proofs.YtpkeacnacjnlcaaGreat
namespace Go.Proofs.YtpkeacnacjnlcaaGreat
open Go.RowKit Go.Lib
abbrev Hd:=Option Addr×Nat×Nat
def hdAt (hs:List Hd) (k:Nat):Hd:=hs[k]?.getD (none,0,0)
def pcV (x:Parc) (h:Hd):List Value:=[.int .i64 x.id,.slice h.1 h.2.1 h.2.2,.string x.owner]
def rowPV:List Parc→List Hd→List Value
 |x::ps,h::hs=>pcV x h++rowPV ps hs
 |_,_=>[]
theorem rowPV_snoc {ps:List Parc} {hs:List Hd} (x:Parc) (h:Hd) (hl:hs.length=ps.length):rowPV (ps++[x]) (hs++[h])=rowPV ps hs++pcV x h:=by
 induction ps generalizing hs with
 |nil=>
  obtain rfl:=List.eq_nil_of_length_eq_zero hl
  simp[rowPV]
 |cons y ps ih=>
  rcases hs with _|⟨g,hs⟩
  ·simp at hl
  ·show pcV y g++rowPV (ps++[x]) (hs++[h])=(pcV y g++rowPV ps hs)++pcV x h
   rw[ih (by simpa using hl),List.append_assoc]
theorem rowPV_at {ps:List Parc} {hs:List Hd} (hl:hs.length=ps.length) {k:Nat} (hk:k<ps.length):
 (rowPV ps hs)[k*3]?=some (.int .i64 (pcAt ps k).id)∧(rowPV ps hs)[k*3+1]?=some (.slice (hdAt hs k).1 (hdAt hs k).2.1 (hdAt hs k).2.2)∧(rowPV ps hs)[k*3+2]?=some (.string (pcAt ps k).owner):=by
 induction ps generalizing hs k with
 |nil=>simp at hk
 |cons y ps ih=>
  rcases hs with _|⟨g,hs⟩
  ·simp at hl
  ·rcases k with _|k
   ·exact⟨rfl,rfl,rfl⟩
   ·have:=ih (hs:=hs) (by simpa using hl) (k:=k) (by simpa using hk)
    rw[show (k+1)*3=k*3+2+1 by omega]
    exact this
theorem own_own_ne {W:World} {b1 b2 n1 n2 s1 s2:Nat} {e1 e2:TypeId} {v1 v2:Value} {x1 x2:List Value} (h1:W.ownsRow b1 e1 s1 v1 n1 x1) (h2:W.ownsRow b2 e2 s2 v2 n2 x2) (hne:e1≠e2) {g:Nat} (hg:v1.ownBlock=some g):v2.ownBlock≠some g:=by
 rcases h1.2 with ⟨rfl,-⟩|⟨g1,c1,cur,rfl,-,hh,-⟩
 ·simp[Value.ownBlock]at hg
 ·have:g1=g:=by simpa[Value.ownBlock]using hg
  subst this
  exact own_blk_ne h2 (show Blk W g1 e1 cur from hh) (fun e=>hne e.symm)
structure OwnF (w W:World) (Bq:Nat) (p:Plan) (A:Option Addr) (n c:Nat) (A':Option Addr) (n' c' k:Nat) (Ao:Option Addr) (co:Nat) (Ap:Option Addr) (cp:Nat) (hs:List Hd):Prop where
 bel:Below w.heap.size w W
 pbox:PlK W w.heap.size A n c A' n' c'
 rbox:PlK W (w.heap.size+1) none 0 0 none 0 0
 qbox:PlK W Bq Ao n co Ap k cp
 hB:w.heap.size+1<Bq
 out:W.ownsRow w.heap.size 23 2 (.slice Ao n co) n (ptsV p.outer)
 row:W.ownsRow w.heap.size 27 3 (.slice Ap k cp) k (rowPV (p.parcels.take k) hs)
 len:hs.length=k
 rings:∀j,j<k→W.ownsRow w.heap.size 23 2 (.slice (hdAt hs j).1 (hdAt hs j).2.1 (hdAt hs j).2.2) (hdAt hs j).2.1 (ptsV (pcAt p.parcels j).ring)
theorem OwnF.on {w W W':World} {Bq:Nat} {p:Plan} {A A' Ao Ap:Option Addr} {n c n' c' k co cp:Nat} {hs:List Hd} (h:OwnF w W Bq p A n c A' n' c' k Ao co Ap cp hs) (hb:Below W.heap.size W W'):OwnF w W' Bq p A n c A' n' c' k Ao co Ap cp hs:=
 ⟨below_on h.bel (Nat.le_refl _) hb,h.pbox.on hb,h.rbox.on hb,h.qbox.on hb,h.hB,own_below h.out hb,own_below h.row hb,h.len,fun j hj=>own_below (h.rings j hj) hb⟩
theorem hdAt_snoc_lt {hs:List Hd} {h:Hd} {j:Nat} (hj:j<hs.length):hdAt (hs++[h]) j=hdAt hs j:=by unfold hdAt;rw[List.getElem?_append_left hj]
theorem hdAt_snoc_eq {hs:List Hd} {h:Hd}:hdAt (hs++[h]) hs.length=h:=by unfold hdAt;rw[List.getElem?_append_right (Nat.le_refl _)];simp
theorem OwnF.next {w W W':World} {Bq:Nat} {p:Plan} {A A' Ao Ap A3 Ap':Option Addr} {n c n' c' k co cp nk c3 cp':Nat} {hs:List Hd} (h:OwnF w W Bq p A n c A' n' c' k Ao co Ap cp hs) (hk:k<p.parcels.length)
 (hnew:W.ownsRow w.heap.size 23 2 (.slice A3 nk c3) nk (ptsV (pcAt p.parcels k).ring))
 (hown:W'.ownsRow w.heap.size 27 3 (.slice Ap' (k+1) cp') (k+1) (rowPV (p.parcels.take k) hs++pcV (pcAt p.parcels k) (A3,nk,c3)))
 (hg:W.grownBy W' (Value.slice Ap k cp).ownBlock):
 (PlK W' Bq Ao n co Ap k cp)∧OwnF w (W'.setCell ⟨Bq,1,none⟩ (.slice Ap' (k+1) cp')) Bq p A n c A' n' c' (k+1) Ao co Ap' cp' (hs++[(A3,nk,c3)]):=by
 have hq:PlK W' Bq Ao n co Ap k cp:=(hg.block _ (Blk.lt h.qbox) (fun e=>own_blk_ne h.row h.qbox (by decide) e.symm)).trans h.qbox
 have hp:PlK W' w.heap.size A n c A' n' c':=(hg.block _ (Blk.lt h.pbox) (fun e=>own_blk_ne h.row h.pbox (by decide) e.symm)).trans h.pbox
 have hr:PlK W' (w.heap.size+1) none 0 0 none 0 0:=(hg.block _ (Blk.lt h.rbox) (fun e=>own_blk_ne h.row h.rbox (by decide) e.symm)).trans h.rbox
 have hkeep:∀ {v:Value} {m:Nat} {xs:List Value},W.ownsRow w.heap.size 23 2 v m xs→(W'.setCell ⟨Bq,1,none⟩ (.slice Ap' (k+1) cp')).ownsRow w.heap.size 23 2 v m xs:=fun {v m xs} ho=>by
  refine own_heap ho fun g hg'=>?_
  have h1:g≠Bq:=fun e=>own_blk_ne ho h.qbox (by decide) (by rw[hg',e])
  rw[Below.heap_setCell _ _ _ g h1]
  exact hg.block g (ho.lt g hg').2 (fun e=>own_own_ne ho h.row (by decide) hg' e.symm)
 have hB:=h.hB
 have hbel:Below w.heap.size w W':=h.bel.grown hg h.bel.size (fun g e=>(h.row.lt g e).1)
 refine⟨hq,⟨hbel.setCell (p:=⟨Bq,1,none⟩) (by simp only;omega) _,Blk.far hp (by simp only;omega) _,Blk.far hr (by simp only;omega) _,?_,hB,hkeep h.out,?_,by rw[List.length_append,h.len];rfl,fun j hj=>?_⟩⟩
 ·have:=Blk.set_ hq 1 (.slice Ap' (k+1) cp')
  simp only[List.setIfInBounds_toArray,List.set_cons_zero,List.set_cons_succ]at this
  exact this
 ·rw[List.take_succ_eq_append_getElem hk,rowPV_snoc _ _ (by rw[h.len,List.length_take];omega),←pcAt_lt hk]
  refine own_heap hown fun g hg'=>Below.heap_setCell _ _ _ g (fun e=>own_blk_ne hown hq (by decide) (by rw[hg',e]))
 ·by_cases hjk:j<k
  ·rw[hdAt_snoc_lt (by rw[h.len];exact hjk)]
   exact hkeep (h.rings j hjk)
  ·obtain rfl:j=hs.length:=by rw[h.len];omega
   rw[hdAt_snoc_eq,h.len]
   exact hkeep hnew
theorem info_pc:(Tryz.prog.info? 27).map (fun i=>(i.zero,i.size,i.bytes))=some (some (.agg #[.int .i64 0,.slice none 0 0,.string ByteArray.empty]),3,48):=by kernel_rfl
/-- A plan all of whose rows are own: blocks that hold points or parcels, from B on. -/
structure PlanOwn (B:Nat) (W:World) (A:Option Addr) (n c:Nat) (A':Option Addr) (n' c':Nat) (p:Plan) (hs:List Hd):Prop where
 out:W.ownsRow B 23 2 (.slice A n c) n (ptsV p.outer)
 row:W.ownsRow B 27 3 (.slice A' n' c') n' (rowPV p.parcels hs)
 len:hs.length=n'
 lenp:p.parcels.length=n'
 rings:∀j,j<n'→W.ownsRow B 23 2 (.slice (hdAt hs j).1 (hdAt hs j).2.1 (hdAt hs j).2.2) (hdAt hs j).2.1 (ptsV (pcAt p.parcels j).ring)
 fits:p.fits
theorem PlanOwn.below {B n c n' c':Nat} {W W':World} {A A':Option Addr} {p:Plan} {hs:List Hd} (h:PlanOwn B W A n c A' n' c' p hs) (hb:Below W.heap.size W W'):PlanOwn B W' A n c A' n' c' p hs:=
 ⟨own_below h.out hb,own_below h.row hb,h.len,h.lenp,fun j hj=>own_below (h.rings j hj) hb,h.fits⟩
theorem PlanOwn.mono {B B' n c n' c':Nat} {W:World} {A A':Option Addr} {p:Plan} {hs:List Hd} (h:PlanOwn B W A n c A' n' c' p hs) (hB:B'≤B):PlanOwn B' W A n c A' n' c' p hs:=
 ⟨own_mono h.out hB,own_mono h.row hB,h.len,h.lenp,fun j hj=>own_mono (h.rings j hj) hB,h.fits⟩
theorem PlanOwn.store {B n c n' c' g:Nat} {W:World} {A A':Option Addr} {p:Plan} {hs:List Hd} {t:TypeId} {cs:Array Value} (h:PlanOwn B W A n c A' n' c' p hs) (hg:Blk W g t cs) (h1:23≠t) (h2:27≠t) (i:Nat) (v:Value):PlanOwn B (W.setCell ⟨g,i,none⟩ v) A n c A' n' c' p hs:=by
 have hkeep:∀ {e:TypeId} {s m:Nat} {x:Value} {xs:List Value},e≠t→W.ownsRow B e s x m xs→(W.setCell ⟨g,i,none⟩ v).ownsRow B e s x m xs:=fun {e s m x xs} hne ho=>by
  refine own_heap ho fun k hk=>?_
  exact Below.heap_setCell _ _ _ k (fun e'=>own_blk_ne ho hg hne (by rw[hk,e']))
 exact⟨hkeep h1 h.out,hkeep h2 h.row,h.len,h.lenp,fun j hj=>hkeep h1 (h.rings j hj),h.fits⟩
theorem PlanOwn.at_ {B n c n' c':Nat} {W:World} {A A':Option Addr} {p:Plan} {hs:List Hd} (h:PlanOwn B W A n c A' n' c' p hs):PlanAt W W.heap.size A n c A' n' c' p:=by
 refine⟨Reads.of_own h.out,⟨h.lenp,fun h0=>?_⟩,own_cap h.out,own_cap h.row,h.fits⟩
 obtain⟨ad,e,hb,hc⟩:=(Reads.of_own h.row).2 h0
 refine⟨ad,e,hb,fun k hk=>?_⟩
 obtain⟨g1,g2,g3⟩:=rowPV_at (hs:=hs) (ps:=p.parcels) (by rw[h.len,h.lenp]) (k:=k) (by rw[h.lenp];exact hk)
 have hr:=h.rings k hk
 exact⟨hc _ _ g1,⟨_,_,_,hc _ _ g2,Reads.of_own hr,own_cap hr⟩,hc _ _ g3⟩
theorem OwnF.own {w W:World} {Bq:Nat} {p:Plan} {A A' Ao Ap:Option Addr} {n c n' c' co cp:Nat} {hs:List Hd} (h:OwnF w W Bq p A n c A' n' c' n' Ao co Ap cp hs) (hl:p.parcels.length=n') (hf:p.fits):PlanOwn w.heap.size W Ao n co Ap n' cp p hs:=by
 have hrow:=h.row
 rw[List.take_of_length_le (by omega)]at hrow
 exact⟨h.out,hrow,h.len,hl,h.rings,hf⟩
/-- An item, and where its key and its value lie. -/
abbrev ItH:=It×Hd×Hd
instance:Inhabited ItH:=⟨(⟨[],[]⟩,(none,0,0),(none,0,0))⟩
def hdV (h:Hd):Value:= .slice h.1 h.2.1 h.2.2
def encIt (e:ItH):List Value:=[.slice e.2.1.1 e.2.1.2.1 e.2.1.2.2,.slice e.2.2.1 e.2.2.2.1 e.2.2.2.2]
def itsV (l:List ItH):List Value:=l.flatMap encIt
theorem itsV_length (l:List ItH):(itsV l).length=l.length*2:=by
 induction l with
 |nil=>rfl
 |cons e l ih=>unfold itsV at *;rw[List.flatMap_cons,List.length_append,ih];simp[encIt];omega
theorem itsV_append (a b:List ItH):itsV (a++b)=itsV a++itsV b:=by simp[itsV]
theorem itsV_one (l:List ItH):∀u∈itsV l,u.oneCell'=true:=by
 intro u hu
 unfold itsV encIt at hu
 simp only[List.mem_flatMap]at hu
 obtain⟨e,-,he⟩:=hu
 simp at he
 rcases he with rfl|rfl<;>rfl
theorem itsV_get (l:List ItH) (k:Nat) (h:k<l.length):(itsV l)[k*2]?=some (.slice l[k].2.1.1 l[k].2.1.2.1 l[k].2.1.2.2)∧(itsV l)[k*2+1]?=some (.slice l[k].2.2.1 l[k].2.2.2.1 l[k].2.2.2.2):=by
 induction l generalizing k with
 |nil=>simp at h
 |cons e l ih=>
  have e1:itsV (e::l)=encIt e++itsV l:=rfl
  rw[e1]
  cases k with
  |zero=>exact⟨rfl,rfl⟩
  |succ k=>
   have h':k<l.length:=by simpa using h
   obtain⟨h1,h2⟩:=ih k h'
   rw[List.getElem?_append_right (by simp[encIt];omega),List.getElem?_append_right (by simp[encIt];omega)]
   have e2:(k+1)*2-(encIt e).length=k*2:=by simp[encIt];omega
   have e3:(k+1)*2+1-(encIt e).length=k*2+1:=by simp[encIt];omega
   rw[e2,e3]
   exact⟨h1,h2⟩
/-- Bytes to read: where they lie, and that there are no more than there is room. -/
def RdB (W:World) (B:Nat) (h:Hd) (xs:List UInt8):Prop:=Reads W B 1 h.1 h.2.1 (u8s xs)∧h.2.1≤h.2.2∧h.2.2≤9223372036854775807
theorem RdB.on {W W':World} {h:Hd} {xs:List UInt8} (r:RdB W W.heap.size h xs) (hb:Below W.heap.size W W'):RdB W' W'.heap.size h xs:=⟨r.1.on hb,r.2⟩
def RdIt (W:World) (B:Nat) (e:ItH):Prop:=RdB W B e.2.1 e.1.k∧RdB W B e.2.2 e.1.v
theorem RdIt.on {W W':World} {e:ItH} (r:RdIt W W.heap.size e) (hb:Below W.heap.size W W'):RdIt W' W'.heap.size e:=⟨r.1.on hb,r.2.on hb⟩
/-- Items to read. -/
def ItsAt (W:World) (B:Nat) (A:Option Addr) (n c:Nat) (d:List ItH):Prop:=Reads W B 2 A n (itsV d)∧(∀e∈d,RdIt W B e)∧n≤c∧c≤9223372036854775807
theorem ItsAt.on {W W':World} {A:Option Addr} {n c:Nat} {d:List ItH} (h:ItsAt W W.heap.size A n c d) (hb:Below W.heap.size W W'):ItsAt W' W'.heap.size A n c d:=
 ⟨h.1.on hb,fun e he=>(h.2.1 e he).on hb,h.2.2⟩
theorem ItsAt.len {W:World} {B:Nat} {A:Option Addr} {n c:Nat} {d:List ItH} (h:ItsAt W B A n c d):d.length=n:=by
 have:=h.1.1
 rw[itsV_length]at this
 omega
/-- The cells of an item. -/
theorem ItsAt.cells {W:World} {B:Nat} {ad:Addr} {n c:Nat} {d:List ItH} (h:ItsAt W B (some ad) n c d) {k:Nat} (hk:k<n) (hd:k<d.length):
 ad.block<B∧W.cell? (ad.add (k*2))=some (.slice d[k].2.1.1 d[k].2.1.2.1 d[k].2.1.2.2)∧W.cell? ⟨(ad.add (k*2)).block,(ad.add (k*2)).off+1,none⟩=some (.slice d[k].2.2.1 d[k].2.2.2.1 d[k].2.2.2.2):=by
 obtain⟨ad',e,hb,hc⟩:=h.1.2 (by omega)
 cases e
 obtain⟨h1,h2⟩:=itsV_get d k hd
 exact⟨hb,hc _ _ h1,by rw[add_next];exact hc _ _ h2⟩
/-- Bytes to read in a block that was made since the call began. -/
def NewB (base:Nat) (W:World) (h:Hd) (xs:List UInt8):Prop:=Reads W W.heap.size 1 h.1 h.2.1 (u8s xs)∧(h.2.1≤h.2.2∧h.2.2≤9223372036854775807)∧∀a,h.1=some a→base≤a.block∧∃cs fr,W.heap[a.block]?=some (Obj.cells cs 5 fr)
theorem NewB.of_own {base:Nat} {W:World} {A:Option Addr} {n c:Nat} {xs:List UInt8} (h:W.ownsRow base 5 1 (.slice A n c) n (u8s xs)):NewB base W (A,n,c) xs:=
 ⟨Reads.of_own h,own_cap h,fun a e=>by
   rcases h.2 with ⟨h1,-⟩|⟨g',c',cur,h1,h2,hb,-⟩
   ·cases h1;cases e
   ·cases h1;cases e;exact⟨h2,_,_,hb⟩⟩
theorem NewB.heap {base:Nat} {W W':World} {h:Hd} {xs:List UInt8} (r:NewB base W h xs) (hs:W.heap.size≤W'.heap.size) (hk:∀(g:Nat) (cs:Array Value) (fr:Nat×Nat),W.heap[g]?=some (Obj.cells cs 5 fr)→W'.heap[g]?=W.heap[g]?):NewB base W' h xs:=by
 obtain⟨h1,h2,h3⟩:=r
 refine⟨⟨h1.1,fun h0=>?_⟩,h2,fun a e=>?_⟩
 ·obtain⟨ad,e,hb,hc⟩:=h1.2 h0
  obtain⟨-,cs,fr,hg⟩:=h3 ad e
  refine⟨ad,e,Nat.lt_of_lt_of_le hb hs,fun k u hu=>?_⟩
  rw[←hc k u hu]
  exact World.cell?_of_block (by rw[block_of_add];exact hk _ _ _ hg)
 ·obtain⟨hb,cs,fr,hg⟩:=h3 a e
  exact⟨hb,cs,fr,(hk _ _ _ hg).trans hg⟩
theorem NewB.below {base:Nat} {W W':World} {h:Hd} {xs:List UInt8} (r:NewB base W h xs) (hb:Below W.heap.size W W'):NewB base W' h xs:=
 r.heap hb.size fun g _ _ hg=>hb.block g (Array.getElem?_eq_some_iff.1 hg).1
theorem NewB.mono {base base':Nat} {W:World} {h:Hd} {xs:List UInt8} (r:NewB base W h xs) (hb:base'≤base):NewB base' W h xs:=
 ⟨r.1,r.2.1,fun a e=>⟨Nat.le_trans hb (r.2.2 a e).1,(r.2.2 a e).2⟩⟩
theorem NewB.rd {base:Nat} {W:World} {h:Hd} {xs:List UInt8} (r:NewB base W h xs):RdB W W.heap.size h xs:=⟨r.1,r.2.1⟩
theorem newB_nil (base:Nat) (W:World):NewB base W (none,0,0) []:=NewB.of_own (World.ownsRow_nil _ _ _ _)
/-- An item of the call's own. -/
def OwnIt (base:Nat) (W:World) (e:ItH):Prop:=NewB base W e.2.1 e.1.k∧NewB base W e.2.2 e.1.v
theorem OwnIt.below {base:Nat} {W W':World} {e:ItH} (h:OwnIt base W e) (hb:Below W.heap.size W W'):OwnIt base W' e:=⟨h.1.below hb,h.2.below hb⟩
theorem OwnIt.mono {base base':Nat} {W:World} {e:ItH} (h:OwnIt base W e) (hb:base'≤base):OwnIt base' W e:=⟨h.1.mono hb,h.2.mono hb⟩
theorem OwnIt.rd {base:Nat} {W:World} {e:ItH} (h:OwnIt base W e):RdIt W W.heap.size e:=⟨h.1.rd,h.2.rd⟩
theorem OwnIt.heap {base:Nat} {W W':World} {e:ItH} (h:OwnIt base W e) (hs:W.heap.size≤W'.heap.size) (hk:∀(g:Nat) (cs:Array Value) (fr:Nat×Nat),W.heap[g]?=some (Obj.cells cs 5 fr)→W'.heap[g]?=W.heap[g]?):OwnIt base W' e:=⟨h.1.heap hs hk,h.2.heap hs hk⟩
/-- A row's block is none of another type. -/
theorem own_ne_cells {base:Nat} {W:World} {t u:TypeId} {size n g:Nat} {v:Value} {xs:List Value} {cs:Array Value} {fr:Nat×Nat} (h:W.ownsRow base t size v n xs) (hg:W.heap[g]?=some (Obj.cells cs u fr)) (hne:t≠u):some g≠v.ownBlock:=fun e=>by
 rcases h.2 with ⟨rfl,-⟩|⟨g',c',cur,rfl,-,hb,-⟩
 ·simp[Value.ownBlock]at e
 ·simp[Value.ownBlock]at e
  subst e
  rw[hb]at hg
  cases hg
  exact hne rfl
/-- Items of the call's own: the row, the keys and the values. -/
def ItsOwn (base:Nat) (W:World) (A:Option Addr) (n c:Nat) (d:List ItH):Prop:=W.ownsRow base 52 2 (.slice A n c) n (itsV d)∧∀e∈d,OwnIt base W e
theorem ItsOwn.below {base:Nat} {W W':World} {A:Option Addr} {n c:Nat} {d:List ItH} (h:ItsOwn base W A n c d) (hb:Below W.heap.size W W'):ItsOwn base W' A n c d:=
 ⟨own_below h.1 hb,fun e he=>(h.2 e he).below hb⟩
theorem ItsOwn.mono {base base':Nat} {W:World} {A:Option Addr} {n c:Nat} {d:List ItH} (h:ItsOwn base W A n c d) (hb:base'≤base):ItsOwn base' W A n c d:=
 ⟨own_mono h.1 hb,fun e he=>(h.2 e he).mono hb⟩
theorem ItsOwn.at_ {base:Nat} {W:World} {A:Option Addr} {n c:Nat} {d:List ItH} (h:ItsOwn base W A n c d):ItsAt W W.heap.size A n c d:=
 ⟨Reads.of_own h.1,fun e he=>(h.2 e he).rd,own_cap h.1⟩
theorem ItsOwn.len {base:Nat} {W:World} {A:Option Addr} {n c:Nat} {d:List ItH} (h:ItsOwn base W A n c d):d.length=n:=h.at_.len
theorem itsOwn_nil (base:Nat) (W:World):ItsOwn base W none 0 0 []:=⟨World.ownsRow_nil _ _ _ _,fun _ h=>absurd h (by simp)⟩
/-- Items that are appended to a row. -/
theorem ItsOwn.append {base:Nat} {W W':World} {A A':Option Addr} {n c n' c':Nat} {d e:List ItH} (h:ItsOwn base W A n c d) (he:∀x∈e,OwnIt base W x)
 (hown:W'.ownsRow base 52 2 (.slice A' n' c') n' (itsV d++itsV e)) (hg:W.grownBy W' (Value.slice A n c).ownBlock):ItsOwn base W' A' n' c' (d++e):=by
 have hk:∀(g:Nat) (cs:Array Value) (fr:Nat×Nat),W.heap[g]?=some (Obj.cells cs 5 fr)→W'.heap[g]?=W.heap[g]?:=fun g _ _ hb=>hg.block g (Array.getElem?_eq_some_iff.1 hb).1 (own_ne_cells h.1 hb (by decide))
 refine⟨by rw[itsV_append];exact hown,fun x hx=>?_⟩
 rcases List.mem_append.1 hx with hx|hx
 ·exact(h.2 x hx).heap hg.size hk
 ·exact(he x hx).heap hg.size hk
theorem info_it:(Tryz.prog.info? 52).map (fun i=>(i.zero,i.size,i.bytes))=some (some (.agg #[.slice none 0 0,.slice none 0 0]),2,48):=by kernel_rfl
end Go.Proofs.YtpkeacnacjnlcaaGreat
namespace Go.Proofs.YtpkeacnacjnlcaaGreat
open Go.Shelf
end Go.Proofs.YtpkeacnacjnlcaaGreat
namespace Go.Proofs.YtpkeacnacjnlcaaGreat
open Go.RowKit Go.Shelf Go.Sort
abbrev PcH:=Parc×Hd
instance:Inhabited PcH:=⟨(⟨0,[],ByteArray.empty⟩,(none,0,0))⟩
def encPH (e:PcH):List Value:=[.int .i64 e.1.id,.slice e.2.1 e.2.2.1 e.2.2.2,.string e.1.owner]
def pchV (l:List PcH):List Value:=l.flatMap encPH
theorem rowPV_pch {ps:List Parc} {hs:List Hd} (h:hs.length=ps.length):rowPV ps hs=pchV (ps.zip hs):=by
 induction ps generalizing hs with
 |nil=>simp[rowPV,pchV]
 |cons y ps ih=>
  rcases hs with _|⟨g,hs⟩
  ·simp at h
  ·show pcV y g++rowPV ps hs=_
   rw[ih (by simpa using h)]
   rfl
theorem pch_rowPV (d:List PcH):pchV d=rowPV (d.map (·.1)) (d.map (·.2)):=by
 rw[rowPV_pch (by simp)]
 have e:(d.map (·.1)).zip (d.map (·.2))=d:=by
  induction d with
  |nil=>rfl
  |cons x d ih=>simp[ih]
 rw[e]
end Go.Proofs.YtpkeacnacjnlcaaGreat
namespace Go.Proofs.YtpkeacnacjnlcaaGreat
open Go.RowKit Go.Lib
def SF14 (n n':Nat) (p:Plan) (w:World) (e:Ending) (w':World):Prop:=∃b:Bool,e= .returned (.bool b)∧(b=true→n'≤80∧cornN n p.parcels≤300)∧Below w.heap.size w w'
theorem SF14.mk {n n':Nat} {p:Plan} {w:World} {e:Ending} {w':World} (b:Bool) (h1:e= .returned (.bool b)) (h2:b=true→n'≤80∧cornN n p.parcels≤300) (h3:Below w.heap.size w w'):SF14 n n' p w e w':=⟨b,h1,h2,h3⟩
set_option maxRecDepth 100000 in
theorem ptL_any (q:Pt) (hq:good q=true) (w:World):
 Calls Tryz.prog 55 #[ptV q] w (Own8 (ptB q) w):=by
 have hg:=(good_iff q).1 hq
 obtain⟨W,hW⟩:∃W,W=w.alloc (.cells #[.int .i64 q.x,.int .i64 q.y] 23):=⟨_,rfl⟩
 have hba:Below w.heap.size w W:=by rw[hW];exact(Below.refl _ _).alloc (Nat.le_refl _) _
 have hk:HasPt W w.heap.size q:=by rw[hW];exact HasPt.new w q 23
 have e0:IntKind.i64.wrap (q.x+1073741824)=q.x+1073741824:=by rw[IntKind.wrap_i64];omega
 have e1:IntKind.i64.wrap (q.y+1073741824)=q.y+1073741824:=by rw[IntKind.wrap_i64];omega
 have HR:Hid (Reads W.drew W.heap.size 1 none 0 (u8s [])):=⟨rfl,fun h=>absurd h (by omega)⟩
 have HQ:=Lib.hid hq
 have HG:=Lib.hid (And.intro (show q.x+1073741824≤9223372036854775807 by omega) (And.intro (show q.y+1073741824≤9223372036854775807 by omega) (show (putN [] (q.x+1073741824) 4).length≤140737488354000 by rw[put_len4 [] _ (by omega)];simp)))
 have HB:=Lib.hid hba
 obtain⟨k0,k1,k2⟩:=hk
 have hh:(⟨w.heap.size,0,none⟩:Addr).block<W.heap.size∧(⟨w.heap.size,1,none⟩:Addr).block<W.heap.size:=⟨k2,k2⟩
 have hP0:W.drew.cell? ⟨w.heap.size,0,none⟩=some (.int .i64 q.x)∧W.drew.cell? ⟨w.heap.size,1,none⟩=some (.int .i64 q.y)∧Below W.heap.size W W.drew:=⟨k0,k1,(Below.refl _ _).drew⟩
 have hbd:Below W.heap.size W W.drew:=(Below.refl _ _).drew
 clear hg hba hq k0 k1 k2
 unfold ptV
 go_enter Tryz.func55,Tryz.ntmps55
 go_upto_region 1 with fail
 rw[←hW]
 clear hW
 refine wp_region_held_drew (S:=fun V=>V.cell? ⟨w.heap.size,0,none⟩=some (.int .i64 q.x)∧V.cell? ⟨w.heap.size,1,none⟩=some (.int .i64 q.y)∧Below W.heap.size W V) (by kernel_rfl) ?_ (fun hHeld=>?_)
 ·exact hP0
 refine tk 0 ?_
 refine tk 1 ?_
 refine tk 2 ?_
 refine tk 4 ?_
 refine tk 5 ?_
 refine tk 6 ?_
 refine rd1 3 fun K hK=>?_
 go_simp
 go_at_call 54
 (with_reducible refine(putNumR_any [] none 0 0 (q.x+1073741824) 4 _ HR.out (by omega) HG.out.1).mono ?_)
 rintro e w1 ⟨A1,c1,rfl,ho1,hb1⟩
 have hB1:=hbd.trans hb1
 try dsimp only
 refine hK.out _ _ (hldPt hh hP0 hb1) fun hHeld=>?_
 clear hK K
 try simp only[Act.put,sb0,sc0,sc1]
 refine rd1 7 fun K hK=>?_
 go_simp
 go_at_call 54
 (with_reducible refine(putNumR_any _ A1 _ c1 (q.y+1073741824) 4 _ (Reads.of_own ho1) HG.out.2.2 HG.out.2.1).mono ?_)
 rintro e w2 ⟨A2,c2,rfl,ho2,hb2⟩
 have hB2:=below_on hB1 (Nat.le_refl _) hb2
 rw[pt_put HQ.out,List.nil_append]at *
 try dsimp only
 refine hK.out _ _ (hldPt hh hHeld hb2) fun hHeld=>?_
 clear hK K
 try simp only[Act.put,sb0,sc0,sc1]
 refine tk 8 ?_
 refine wpAnyH_done (by kernel_rfl) ?_ _
 go_wp2_with fail
 go_ret
 have hs:=HB.out.size
 exact⟨A2,c2,by first|rfl|simp,own_mono ho2 (Nat.le_trans hs hB1.size),below_on HB.out (Nat.le_refl _) hB2⟩
def lst (xs:List Pt):List Pt:=rot (leastN xs xs.length) xs
def ringOf (p:Plan) (xs:List Pt):Prop:=xs=p.outer∨∃x∈p.parcels,xs=x.ring
structure EachF (w W:World) (Bq:Nat) (p:Plan) (A:Option Addr) (n c:Nat) (A':Option Addr) (n' c' k:Nat) (Ao:Option Addr) (no co:Nat) (Ap:Option Addr) (cp:Nat) (hs:List Hd):Prop where
 bel:Below w.heap.size w W
 pbox:PlK W w.heap.size A n c A' n' c'
 rbox:PlK W (w.heap.size+1) none 0 0 none 0 0
 qbox:PlK W Bq Ao no co Ap k cp
 hB:w.heap.size+1<Bq
 out:W.ownsRow w.heap.size 23 2 (.slice Ao no co) no (ptsV p.outer)
 row:W.ownsRow w.heap.size 27 3 (.slice Ap k cp) k (rowPV (p.parcels.take k) hs)
 len:hs.length=k
 rings:∀j,j<k→W.ownsRow w.heap.size 23 2 (.slice (hdAt hs j).1 (hdAt hs j).2.1 (hdAt hs j).2.2) (hdAt hs j).2.1 (ptsV (pcAt p.parcels j).ring)
theorem EachF.on {w W W':World} {Bq:Nat} {p:Plan} {A A' Ao Ap:Option Addr} {n c n' c' k no co cp:Nat} {hs:List Hd} (h:EachF w W Bq p A n c A' n' c' k Ao no co Ap cp hs) (hb:Below W.heap.size W W'):EachF w W' Bq p A n c A' n' c' k Ao no co Ap cp hs:=
 ⟨below_on h.bel (Nat.le_refl _) hb,h.pbox.on hb,h.rbox.on hb,h.qbox.on hb,h.hB,own_below h.out hb,own_below h.row hb,h.len,fun j hj=>own_below (h.rings j hj) hb⟩
theorem EachF.next {w W W':World} {Bq:Nat} {p:Plan} {A A' Ao Ap A3 Ap':Option Addr} {n c n' c' k no co cp nk c3 cp':Nat} {hs:List Hd} (h:EachF w W Bq p A n c A' n' c' k Ao no co Ap cp hs) (hk:k<p.parcels.length)
 (hnew:W.ownsRow w.heap.size 23 2 (.slice A3 nk c3) nk (ptsV (pcAt p.parcels k).ring))
 (hown:W'.ownsRow w.heap.size 27 3 (.slice Ap' (k+1) cp') (k+1) (rowPV (p.parcels.take k) hs++pcV (pcAt p.parcels k) (A3,nk,c3)))
 (hg:W.grownBy W' (Value.slice Ap k cp).ownBlock):
 (PlK W' Bq Ao no co Ap k cp)∧EachF w (W'.setCell ⟨Bq,1,none⟩ (.slice Ap' (k+1) cp')) Bq p A n c A' n' c' (k+1) Ao no co Ap' cp' (hs++[(A3,nk,c3)]):=by
 have hq:PlK W' Bq Ao no co Ap k cp:=(hg.block _ (Blk.lt h.qbox) (fun e=>own_blk_ne h.row h.qbox (by decide) e.symm)).trans h.qbox
 have hp:PlK W' w.heap.size A n c A' n' c':=(hg.block _ (Blk.lt h.pbox) (fun e=>own_blk_ne h.row h.pbox (by decide) e.symm)).trans h.pbox
 have hr:PlK W' (w.heap.size+1) none 0 0 none 0 0:=(hg.block _ (Blk.lt h.rbox) (fun e=>own_blk_ne h.row h.rbox (by decide) e.symm)).trans h.rbox
 have hkeep:∀ {v:Value} {m:Nat} {xs:List Value},W.ownsRow w.heap.size 23 2 v m xs→(W'.setCell ⟨Bq,1,none⟩ (.slice Ap' (k+1) cp')).ownsRow w.heap.size 23 2 v m xs:=fun {v m xs} ho=>by
  refine own_heap ho fun g hg'=>?_
  have h1:g≠Bq:=fun e=>own_blk_ne ho h.qbox (by decide) (by rw[hg',e])
  rw[Below.heap_setCell _ _ _ g h1]
  exact hg.block g (ho.lt g hg').2 (fun e=>own_own_ne ho h.row (by decide) hg' e.symm)
 have hB:=h.hB
 have hbel:Below w.heap.size w W':=h.bel.grown hg h.bel.size (fun g e=>(h.row.lt g e).1)
 refine⟨hq,⟨hbel.setCell (p:=⟨Bq,1,none⟩) (by simp only;omega) _,Blk.far hp (by simp only;omega) _,Blk.far hr (by simp only;omega) _,?_,hB,hkeep h.out,?_,by rw[List.length_append,h.len];rfl,fun j hj=>?_⟩⟩
 ·have:=Blk.set_ hq 1 (.slice Ap' (k+1) cp')
  simp only[List.setIfInBounds_toArray,List.set_cons_zero,List.set_cons_succ]at this
  exact this
 ·rw[List.take_succ_eq_append_getElem hk,rowPV_snoc _ _ (by rw[h.len,List.length_take];omega),←pcAt_lt hk]
  refine own_heap hown fun g hg'=>Below.heap_setCell _ _ _ g (fun e=>own_blk_ne hown hq (by decide) (by rw[hg',e]))
 ·by_cases hjk:j<k
  ·rw[hdAt_snoc_lt (by rw[h.len];exact hjk)]
   exact hkeep (h.rings j hjk)
  ·obtain rfl:j=hs.length:=by rw[h.len];omega
   rw[hdAt_snoc_eq,h.len]
   exact hkeep hnew
theorem EachF.own {w W:World} {Bq:Nat} {p:Plan} {A A' Ao Ap:Option Addr} {n c n' c' no co cp:Nat} {hs:List Hd} (h:EachF w W Bq p A n c A' n' c' n' Ao no co Ap cp hs) (hl:p.parcels.length=n') (hf:p.fits):PlanOwn w.heap.size W Ao no co Ap n' cp p hs:=by
 have hrow:=h.row
 rw[List.take_of_length_le (by omega)]at hrow
 exact⟨h.out,hrow,h.len,hl,h.rings,hf⟩
end Go.Proofs.YtpkeacnacjnlcaaGreat
